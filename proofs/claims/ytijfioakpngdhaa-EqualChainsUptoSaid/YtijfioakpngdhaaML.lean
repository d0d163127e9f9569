/- Types with the labels of all nodes in the opposite order. -/
import Derived.Test.YtijfioakpngdhaaMK
namespace Go.Proofs.Ytijfioakpngdhaa
open Go.V
set_option maxRecDepth 100000
set_option linter.unusedSimpArgs false
set_option linter.unusedVariables false

mutual
def turnE : T → T
  | .mk k p n s ls ks => .mk k p n s ls.reverse (if ls.length = 0 ∨ k = 8 then turnL ks else (turnL ks).reverse)
def turnL : List T → List T
  | [] => []
  | t :: l => turnE t :: turnL l
end
theorem turnL_eq (l : List T) : turnL l = l.map turnE := by
  induction l with
  | nil => rfl
  | cons t l ih => rw [turnL, ih]; rfl
theorem turn_eq (t : T) : turnE t = .mk t.kind t.prio t.name t.shift t.labels.reverse (if t.labels.length = 0 ∨ t.kind = 8 then t.kids.map turnE else (t.kids.map turnE).reverse) := by
  cases t; rw [turnE, turnL_eq]; rfl
theorem turn_kind (t : T) : (turnE t).kind = t.kind := by rw [turn_eq]; rfl
theorem turn_prio (t : T) : (turnE t).prio = t.prio := by rw [turn_eq]; rfl
theorem turn_name (t : T) : (turnE t).name = t.name := by rw [turn_eq]; rfl
theorem turn_shift (t : T) : (turnE t).shift = t.shift := by rw [turn_eq]; rfl
theorem turn_labels (t : T) : (turnE t).labels = t.labels.reverse := by rw [turn_eq]; rfl
theorem turn_kids (t : T) : (turnE t).kids = if t.labels.length = 0 ∨ t.kind = 8 then t.kids.map turnE else (t.kids.map turnE).reverse := by rw [turn_eq]; rfl
theorem mem_turn {t s : T} (h : s ∈ (turnE t).kids) : ∃ u ∈ t.kids, turnE u = s := by
  rw [turn_kids] at h
  split at h
  · exact List.mem_map.1 h
  · exact List.mem_map.1 (List.mem_reverse.1 h)
theorem turn_len (t : T) : (turnE t).kids.length = t.kids.length := by
  rw [turn_kids]
  split
  · rw [List.length_map]
  · rw [List.length_reverse, List.length_map]
theorem turn_wf (t : T) : Wf t → Wf (turnE t) := by
  induction t using T.ind with
  | h t ih =>
  intro hw
  refine Wf.mk' (by rw [turn_name]; exact hw.nameLen) (by rw [turn_labels, List.length_reverse]; exact hw.labLen) (by rw [turn_labels]; intro l hl; exact hw.labLens l (List.mem_reverse.1 hl)) (by rw [turn_len]; exact hw.len) (by rw [turn_kind]; exact hw.kindR) (by rw [turn_prio]; exact hw.prioR) (by rw [turn_shift]; exact hw.shiftR) fun s hs => ?_
  obtain ⟨u, hu, rfl⟩ := mem_turn hs
  exact ih u hu (hw.kid hu)
theorem sizeL_app (l m : List T) : T.sizeL (l ++ m) = T.sizeL l + T.sizeL m := by
  induction l with
  | nil => rw [List.nil_append, T.sizeL]; omega
  | cons x l ih => rw [List.cons_append, T.sizeL, T.sizeL, ih]; omega
theorem sizeL_rev (l : List T) : T.sizeL l.reverse = T.sizeL l := by
  induction l with
  | nil => rfl
  | cons x l ih => rw [List.reverse_cons, sizeL_app, ih, T.sizeL, T.sizeL, T.sizeL]; omega
theorem sizeL_congr (f : T → T) (l : List T) (h : ∀ s ∈ l, (f s).size = s.size) : T.sizeL (l.map f) = T.sizeL l := by
  induction l with
  | nil => rfl
  | cons x l ih => rw [List.map_cons, T.sizeL, T.sizeL, h x List.mem_cons_self, ih fun s hs => h s (List.mem_cons_of_mem _ hs)]
theorem turn_size (t : T) : (turnE t).size = t.size := by
  induction t using T.ind with
  | h t ih =>
  rw [T.size_eq, T.size_eq t, turn_kids]
  split
  · rw [sizeL_congr _ _ ih]
  · rw [sizeL_rev, sizeL_congr _ _ ih]
/-- a node's labels are as many as its kids -/
theorem shape_labs {t : T} (h : shapeB t = true) (h0 : t.labels.length ≠ 0) : t.kids.length = t.labels.length ∧ 6 ≤ t.kind := by
  have hk := shape_kinds h
  unfold shapeB at h
  have : t.kind = 1 ∨ t.kind = 2 ∨ t.kind = 3 ∨ t.kind = 4 ∨ t.kind = 5 ∨ t.kind = 6 ∨ t.kind = 7 ∨ t.kind = 8 ∨ t.kind = 9 := by omega
  rcases this with e | e | e | e | e | e | e | e | e <;> (simp [e] at h)
  · rw [h.2.2.2.1] at h0; exact absurd rfl h0
  · rw [h.2.2.2.1] at h0; exact absurd rfl h0
  · rw [h.2.2.2.1] at h0; exact absurd rfl h0
  · rw [h.2.2.2.1] at h0; exact absurd rfl h0
  · rw [h.2.2.2.1] at h0; exact absurd rfl h0
  · exact ⟨by omega, by omega⟩
  · exact ⟨by omega, by omega⟩
  · rw [h.2.2.2.1] at h0; exact absurd rfl h0
  · rw [h.2.2.2.1] at h0; exact absurd rfl h0
theorem nodup_rev {l : List (List UInt8)} : l.reverse.Nodup ↔ l.Nodup := by
  unfold List.Nodup
  rw [List.pairwise_reverse]
  exact ⟨fun h => h.imp fun hh => hh.symm, fun h => h.imp fun hh => hh.symm⟩
theorem turn_shape {t : T} (hw : Wf t) (h : shapeB t = true) : shapeB (turnE t) = true := by
  have hl : labB t.labels.reverse = labB t.labels := by
    have h1 := (lab_run t.labels hw.labLen hw.labLens).2
    have h2 := (lab_run t.labels.reverse (by rw [List.length_reverse]; exact hw.labLen) (fun x hx => hw.labLens x (List.mem_reverse.1 hx))).2
    have : Lab t.labels.reverse ↔ Lab t.labels := by
      unfold Lab
      constructor
      · rintro ⟨a, b⟩
        exact ⟨fun x hx => a x (List.mem_reverse.2 hx), nodup_rev.1 b⟩
      · rintro ⟨a, b⟩
        exact ⟨fun x hx => a x (List.mem_reverse.1 hx), nodup_rev.2 b⟩
    cases hb : labB t.labels with
    | true => exact h2.2 (this.2 (h1.1 hb))
    | false =>
      cases hb2 : labB t.labels.reverse with
      | false => rfl
      | true => rw [h1.2 (this.1 (h2.1 hb2))] at hb; exact hb
  unfold shapeB at h ⊢
  rw [turn_kind, turn_prio, turn_name, turn_shift, turn_labels, turn_len, List.length_reverse, hl]
  exact h

theorem nodeL_iff (names : List (List UInt8)) (all : Bool) : ∀ (l : List T) (i : Nat), nodeL names all l i = 0 ↔ ∀ (j : Nat) (s : T), l[j]? = some s → nodeV s names names.length (decide (0 < i + j) || all) = 0
  | [], i => ⟨(fun _ j s h => by cases h), fun _ => rfl⟩
  | t :: l, i => by
    have ih := nodeL_iff names all l (i + 1)
    rw [nodeL]
    constructor
    · intro h j s hs
      by_cases hz : nodeV t names names.length (decide (0 < i) || all) = 0
      · rw [if_pos hz] at h
        cases j with
        | zero => injection hs with hs; subst hs; exact hz
        | succ j =>
          have := ih.1 h j s hs
          rw [show i + (j + 1) = i + 1 + j by omega]
          exact this
      · rw [if_neg hz] at h; exact absurd h hz
    · intro h
      have h0 := h 0 t rfl
      rw [Nat.add_zero] at h0
      rw [if_pos h0]
      refine ih.2 fun j s hs => ?_
      have := h (j + 1) s hs
      rw [show i + (j + 1) = i + 1 + j by omega] at this
      exact this
/-- the rules of a right node -/
theorem nodeV_iff {t : T} {names : List (List UInt8)} {g : Int} {ses : Bool} (hw : Wf t) (hs : names.length + t.size < 1000000000) : nodeV t names g ses = 0 ↔
    shapeB t = true ∧ ¬ (ses = true ∧ (t.kind = 1 ∨ t.kind = 2)) ∧ (t.kind = 9 → findE names t.name g names.length = 0) ∧ (t.kind = 8 → ∀ s ∈ t.kids, nodeV s (names ++ [t.name]) g true = 0) ∧
      (t.kind ≤ 7 → ∀ (j : Nat) (s : T), t.kids[j]? = some s → nodeV s names names.length (decide (0 < j) || decide (5 < t.kind)) = 0) := by
  rw [(node_run t names g ses hw hs).2]
  unfold nodeS
  by_cases h1 : shapeB t = false ∨ ses = true ∧ (t.kind = 1 ∨ t.kind = 2)
  · rw [if_pos h1]
    refine ⟨(fun h => by cases h), fun h => ?_⟩
    rcases h1 with h1 | h1
    · rw [h.1] at h1; cases h1
    · exact absurd h1 h.2.1
  · rw [if_neg h1]
    have hsh : shapeB t = true := by cases hb : shapeB t; exact absurd (.inl hb) h1; rfl
    have hses : ¬ (ses = true ∧ (t.kind = 1 ∨ t.kind = 2)) := fun h => h1 (.inr h)
    have hk := shape_kinds hsh
    by_cases h9 : t.kind = 9
    · rw [if_pos h9]
      exact ⟨fun h => ⟨hsh, hses, fun _ => h, fun h => by omega, fun h => by omega⟩, fun h => h.2.2.1 h9⟩
    · rw [if_neg h9]
      by_cases h8 : t.kind = 8
      · rw [if_pos h8]
        have hkl : ∃ s, t.kids = [s] := by
          have := hsh
          unfold shapeB at this
          simp only [h8] at this
          simp at this
          exact List.length_eq_one_iff.1 (by omega)
        obtain ⟨s, hks⟩ := hkl
        rw [hks]
        exact ⟨fun h => ⟨hsh, hses, fun h => by omega, fun _ s' hs' => by rw [List.mem_singleton.1 hs']; exact h, fun h => by omega⟩, fun h => h.2.2.2.1 h8 s (List.mem_singleton.2 rfl)⟩
      · rw [if_neg h8, nodeL_iff]
        refine ⟨fun h => ⟨hsh, hses, fun h => by omega, fun h => by omega, fun _ j s hj => ?_⟩, fun h j s hj => ?_⟩
        · have := h j s hj; rw [Nat.zero_add] at this; exact this
        · have := h.2.2.2.2 (by omega) j s hj; rw [Nat.zero_add]; exact this
theorem turn_node (t : T) : ∀ (names : List (List UInt8)) (g : Int) (ses : Bool), Wf t → names.length + t.size < 1000000000 → nodeV t names g ses = 0 → nodeV (turnE t) names g ses = 0 := by
  induction t using T.ind with
  | h t ih =>
  intro names g ses hw hs hz
  have hsz := T.size_eq t
  obtain ⟨h1, h2, h3, h4, h5⟩ := (nodeV_iff hw hs).1 hz
  refine (nodeV_iff (turn_wf t hw) (by rw [turn_size]; exact hs)).2 ⟨turn_shape hw h1, by rw [turn_kind]; exact h2, by rw [turn_kind, turn_name]; exact h3, ?_, ?_⟩
  · rw [turn_kind, turn_name]
    intro h8 s hs'
    obtain ⟨u, hu, rfl⟩ := mem_turn hs'
    have hss := T.size_mem hu
    exact ih u hu _ g true (hw.kid hu) (by rw [List.length_append, List.length_singleton]; omega) (h4 h8 u hu)
  · rw [turn_kind]
    intro h7 j s hj
    by_cases h0 : t.labels.length = 0 ∨ t.kind = 8
    · rw [turn_kids, if_pos h0, List.getElem?_map] at hj
      cases hk : t.kids[j]? with
      | none => rw [hk] at hj; cases hj
      | some u =>
        rw [hk] at hj
        injection hj with hj
        subst hj
        have hu := List.mem_of_getElem? hk
        have hss := T.size_mem hu
        exact ih u hu names _ _ (hw.kid hu) (by omega) (h5 h7 j u hk)
    · have h6 := (shape_labs h1 (fun h => h0 (.inl h))).2
      have hm := List.mem_of_getElem? hj
      obtain ⟨u, hu, rfl⟩ := mem_turn hm
      have hss := T.size_mem hu
      obtain ⟨i, hi⟩ := List.mem_iff_getElem?.1 hu
      have := h5 h7 i u hi
      rw [decide_eq_true (show 5 < t.kind by omega), Bool.or_true] at this ⊢
      exact ih u hu names _ _ (hw.kid hu) (by omega) this
theorem turn_rgt {t : T} (h : Rgt t) : Rgt (turnE t) := ⟨turn_wf t h.wf, by rw [turn_size]; exact h.sz, turn_node t [] 0 false h.wf (by have := h.sz; rw [List.length_nil]; omega) h.node⟩

/-! ### a turned type is equal -/
theorem turn_raise (k : Int) (t : T) : turnE (raiseE k t) = raiseE k (turnE t) := by
  induction t using T.ind with
  | h t ih =>
  have hm : (t.kids.map (raiseE k)).map turnE = (t.kids.map turnE).map (raiseE k) := by
    rw [List.map_map, List.map_map]
    exact List.map_congr_left fun s hs => ih s hs
  rw [turn_eq, raise_kind, raise_prio, raise_name, raise_shift, raise_labels, raise_kids, raise_eq k (turnE t), turn_kind, turn_prio, turn_name, turn_shift, turn_labels, turn_kids, hm]
  congr 1
  split
  · rfl
  · rw [List.map_reverse]
theorem turn_put (x : List UInt8) (b t : T) : turnE (putE x b t) = putE x (turnE b) (turnE t) := by
  induction t using T.ind with
  | h t ih =>
  rw [put_eq x b t, put_eq x (turnE b) (turnE t), turn_kind, turn_name, turn_shift]
  split
  · rw [turn_raise]
  · split
    · rfl
    · have hm : (t.kids.map (putE x b)).map turnE = (t.kids.map turnE).map (putE x (turnE b)) := by
        rw [List.map_map, List.map_map]
        exact List.map_congr_left fun s hs => ih s hs
      rw [turn_eq, turn_prio, turn_labels, turn_kids]
      show T.mk _ _ _ _ _ _ = T.mk _ _ _ _ _ _
      congr 1
      show (if t.labels.length = 0 ∨ t.kind = 8 then (t.kids.map (putE x b)).map turnE else ((t.kids.map (putE x b)).map turnE).reverse) = _
      rw [hm]
      split
      · rfl
      · rw [List.map_reverse]
theorem turn_unf : ∀ (m : Nat) (t : T), unfE m (turnE t) = turnE (unfE m t)
  | 0, t => rfl
  | m + 1, t => by
    rw [unfE_succ, unfE_succ, turn_kind]
    split
    · rename_i h8
      rw [turn_kids, if_pos (.inr h8), turn_name]
      cases hk : t.kids with
      | nil => rfl
      | cons s l =>
        rw [List.map_cons]
        dsimp only
        rw [← turn_put, turn_unf m]
    · rfl
theorem turn_unfold {t : T} (h : Unf t) : Unf (turnE t) ∧ unfoldE (turnE t) = turnE (unfoldE t) := by
  obtain ⟨m, h⟩ := h
  have h' : (unfE m (turnE t)).kind ≠ 8 := by rw [turn_unf, turn_kind]; exact h
  exact ⟨⟨m, h'⟩, by rw [unfold_eq h', unfold_eq h, turn_unf]⟩
theorem eqt_turn {N : List Nd} {B : Int} (hG : GOk N B) {ty : Nat → T} (hN : ∀ (i : Nat) (x : Nd), N[i]? = some x → NT ty x (ty i)) {r : Rf} {a : T} (ha : GP ty r a) (hr : 0 ≤ r.node ∧ r.node < N.length) : EqT a (turnE a) := by
  refine ⟨fun a b => ∃ r, GP ty r a ∧ (0 ≤ r.node ∧ r.node < (N.length : Int)) ∧ b = turnE a, fun a b hab => ?_, r, ha, hr, rfl⟩
  obtain ⟨r, ha, hr, rfl⟩ := hab
  obtain ⟨x, hx⟩ := get_of hr.1 hr.2
  have nx := hG.ns x (List.mem_of_getElem? hx)
  obtain ⟨a1, a2, a3, a4, a5⟩ := gp_fields hN ha hx
  have ht := turn_unfold ha.unf
  have hk8 := ha.unf.kind
  refine ⟨ha.unf, ht.1, by rw [ht.2, turn_kind], by rw [ht.2, turn_labels, List.length_reverse], fun _ => by rw [ht.2, turn_prio], fun i s hs => ?_⟩
  obtain ⟨q, q1, q2⟩ := a5 i s hs
  have q3 := hG.refs x (List.mem_of_getElem? hx) q (List.mem_of_getElem? q1)
  have hil := (List.getElem?_eq_some_iff.1 q1).1
  rw [ht.2]
  generalize unfoldE a = u at *
  by_cases h0 : x.labels.length = 0
  · refine ⟨i, turnE s, ?_, ?_, _, q2, q3, rfl⟩
    · unfold kIdxT; rw [a2, if_pos h0]
    · rw [turn_kids, if_pos (.inl (by rw [a2]; exact h0)), List.getElem?_map, hs]; rfl
  · have hxl := ns_lab nx h0
    have hlk : u.labels[i]? = some (u.labels[i]'(by rw [a2]; omega)) := List.getElem?_eq_getElem _
    have hul : u.labels.length = x.labels.length := by rw [a2]
    have hukl : u.kids.length = u.labels.length := by rw [a4, a2]; exact hxl
    refine ⟨u.labels.length - 1 - i, turnE s, ?_, ?_, _, q2, q3, rfl⟩
    · unfold kIdxT
      rw [if_neg (by omega), hlk]
      dsimp only
      refine idx_nodup (by rw [turn_labels]; exact nodup_rev.2 (by rw [a2]; exact nx.nodup)) ?_
      rw [turn_labels, List.getElem?_reverse (by omega), show u.labels.length - 1 - (u.labels.length - 1 - i) = i by omega]
      exact hlk
    · rw [turn_kids, if_neg (fun h => by rcases h with h | h; omega; exact hk8 h), List.getElem?_reverse (by rw [List.length_map]; omega), List.length_map, show u.kids.length - 1 - (u.labels.length - 1 - i) = i by omega, List.getElem?_map, hs]; rfl
end Go.Proofs.Ytijfioakpngdhaa

namespace Go.Proofs.Ytijfioakpngdhaa
open Go.V
set_option maxRecDepth 100000
set_option linter.unusedSimpArgs false
set_option linter.unusedVariables false

def tuO (t : T) (L : List (List UInt8)) (K : List T) : Objs := [(0, some (bxT t)), (1, some (.box [.d (.int .i64 0), .d (.int .i64 0), .d (.str []), .d (.int .i64 0), .own 2, .own 3])), (2, some (.arr 1 [] true)), (3, some (.arr 6 [] true)),
  (4, some (.box [.d (.int .i64 t.kind), .d (.int .i64 t.prio), .d (.str t.name), .d (.int .i64 t.shift), .own 5, .own 6])), (5, some (.arr 1 (L.map .str) true)), (6, some (.arr 6 (K.map T.data) true))]
def tuI (t : T) (j : Nat) : St := ⟨[(1, .ptr 0 0), (2, .ptr 1 0), (3, .ptr 4 0), (4, .d (.int .i64 ((t.labels.length : Int) - ((j + 1 : Nat) : Int))))], tuO t (t.labels.reverse.take j) ((t.kids.reverse.take j).map turnE), 7, 0, false⟩
def tuK (t : T) (L : List (List UInt8)) (K : Nat → List T) (i : Nat) : St := ⟨[(1, .ptr 0 0), (2, .ptr 1 0), (3, .ptr 4 0), (5, .d (.int .i64 i))], tuO t L (K i), 7, 0, false⟩
theorem take_rev_succ {α : Type} (l : List α) (j : Nat) (hj : j < l.length) (x : α) (hx : l[l.length - 1 - j]? = some x) : l.reverse.take (j + 1) = l.reverse.take j ++ [x] := by
  have h : l.reverse[j]? = some x := by rw [List.getElem?_reverse hj]; exact hx
  obtain ⟨h1, h2⟩ := List.getElem?_eq_some_iff.1 h
  rw [List.take_succ_eq_append_getElem h1, h2]
theorem tu_step1 (t : T) (hw : Wf t) (hkl : t.kids.length = t.labels.length) (ih : ∀ s ∈ t.kids, RW 26 [.d s.data] [] = some (tyV (turnE s))) (j : Nat) (hj : j < t.labels.length) :
    ∃ s, exec att RW LW c26_l1 (tuI t j) = some (.normal, s) ∧ norm [1, 2, 3, 4] s = tuI t (j + 1) := by
  have hlen := hw.len
  have hlab := hw.labLen
  have h0 : decide (0 ≤ (t.labels.length : Int) - ((j + 1 : Nat) : Int)) = true := decide_eq_true (by omega)
  have hti : ((t.labels.length : Int) - ((j + 1 : Nat) : Int)).toNat = t.labels.length - 1 - j := by omega
  have hl : t.labels[t.labels.length - 1 - j]? = some (t.labels[t.labels.length - 1 - j]'(by omega)) := List.getElem?_eq_getElem _
  have hk : t.kids[t.labels.length - 1 - j]? = some (t.kids[t.labels.length - 1 - j]'(by omega)) := List.getElem?_eq_getElem _
  have hu := ih _ (List.mem_of_getElem? hk)
  generalize t.labels[t.labels.length - 1 - j]'(by omega) = lb at hl
  generalize t.kids[t.labels.length - 1 - j]'(by omega) = s at hk hu
  have e1 : (t.labels.reverse.take (j + 1)).map V.Data.str = (t.labels.reverse.take j).map V.Data.str ++ [.str lb] := by rw [take_rev_succ t.labels j hj lb hl, List.map_append]; rfl
  have e2 : ((t.kids.reverse.take (j + 1)).map turnE).map T.data = ((t.kids.reverse.take j).map turnE).map T.data ++ [(turnE s).data] := by
    rw [take_rev_succ t.kids j (by omega) s (by rw [hkl]; exact hk), List.map_append, List.map_append]; rfl
  have hl1 : (t.labels.reverse.take j).length = j := by rw [List.length_take, List.length_reverse]; omega
  have hl2 : (t.kids.reverse.take j).length = j := by rw [List.length_take, List.length_reverse]; omega
  generalize turnE s = u at hu e2
  rw [T.data_eq u] at e2
  rw [T.data_eq s] at hu
  unfold tyV at hu
  have hb1 : decide ((j + 1) * 16 ≤ 140737488355328) = true := decide_eq_true (by omega)
  have hb2 : decide ((j + 1) * 88 ≤ 140737488355328) = true := decide_eq_true (by omega)
  refine ⟨?sx, ?g1, ?g2⟩
  case g1 =>
    unfold c26_l1 tuI tuO bxT
    simp only [go_sem, h0, hti, hl, hk, T.data_eq s, hu, hl1, hl2, hb1, hb2]
    rfl
  case g2 =>
    rw [wrap64 (by omega) (by omega), show ((t.labels.length : Int) - ((j + 1 : Nat) : Int) - 1) = (t.labels.length : Int) - ((j + 1 + 1 : Nat) : Int) by omega]
    unfold tuI tuO bxT
    rw [e1, e2]
    show _ = _
    kernel_rfl
theorem tu_step2 (t : T) (hw : Wf t) (h0 : t.labels.length = 0) (ih : ∀ s ∈ t.kids, RW 26 [.d s.data] [] = some (tyV (turnE s))) (i : Nat) (hi : i < t.kids.length) :
    ∃ s, exec att RW LW c26_l0 (tuK t [] (fun i => (t.kids.take i).map turnE) i) = some (.normal, s) ∧ norm [1, 2, 3, 5] s = tuK t [] (fun i => (t.kids.take i).map turnE) (i + 1) := by
  have hlen := hw.len
  have hi' : decide ((i : Int) < (t.kids.length : Int)) = true := decide_eq_true (by omega)
  have hl0 : decide ((t.labels.length : Int) = 0) = true := decide_eq_true (by omega)
  have hk := kidAt hi
  have hu := ih _ (List.mem_of_getElem? hk)
  have e2 : ((t.kids.take (i + 1)).map turnE).map T.data = ((t.kids.take i).map turnE).map T.data ++ [(turnE t.kids[i]).data] := by
    rw [List.take_succ_eq_append_getElem hi, List.map_append, List.map_append]; rfl
  generalize t.kids[i] = s at hk hu e2
  have hl2 : (t.kids.take i).length = i := by rw [List.length_take]; omega
  generalize turnE s = u at hu e2
  rw [T.data_eq u] at e2
  rw [T.data_eq s] at hu
  unfold tyV at hu
  have hb2 : decide ((i + 1) * 88 ≤ 140737488355328) = true := decide_eq_true (by omega)
  refine ⟨?sx, ?g1, ?g2⟩
  case g1 =>
    unfold c26_l0 tuK tuO bxT
    simp only [go_sem, hi', h0, hk, T.data_eq s, hu, hl2, hb2]
    rfl
  case g2 =>
    rw [wrap64 (by omega) (by omega)]
    unfold tuK tuO bxT
    rw [e2]
    show _ = _
    kernel_rfl
theorem turn_run (t : T) : Shp t → Wf t → RW 26 [.d t.data] [] = some (tyV (turnE t)) := by
  induction t using T.ind with
  | h t ih =>
  intro hs hw
  have ih' := fun s hm => ih s hm (hs.kid s hm) (hw.kid hm)
  have hlen := hw.len
  have hlab := hw.labLen
  have w0 : IntKind.wrap .i64 ((t.labels.length : Int) - 1) = (t.labels.length : Int) - ((0 + 1 : Nat) : Int) := by rw [wrap64 (by omega) (by omega)]; omega
  have dn : decide (0 ≤ (t.labels.length : Int) - ((t.labels.length + 1 : Nat) : Int)) = false := decide_eq_false (by omega)
  rw [turn_eq]
  refine runW_fn rfl rfl ?_
  unfold runFn c26
  simp only [go_sem, T.data_eq t, w0]
  by_cases h0 : t.labels.length = 0
  · have hnil := List.eq_nil_of_length_eq_zero h0
    rw [if_pos (.inl h0)]
    refine obind_loop (e := ?e1) (I := tuI t) (n := t.labels.length) (by kernel_rfl) (fun j hj => by omega) ?he1 ?hn1 ?rest1
    case he1 =>
      unfold c26_l1 tuI tuO bxT
      simp only [go_sem, dn]
      rfl
    case hn1 => intro h; cases h
    case rest1 =>
      simp only [go_sem, hnil]
      refine obind_loop (e := ?e2) (I := tuK t [] (fun i => (t.kids.take i).map turnE)) (n := t.kids.length) (by unfold tuK tuO bxT; rw [hnil]; kernel_rfl) (tu_step2 t hw h0 ih') ?he2 ?hn2 ?rest2
      case he2 =>
        unfold c26_l0 tuK tuO bxT
        simp only [go_sem, List.take_length]
        rfl
      case hn2 => intro h; cases h
      case rest2 =>
        simp only [go_sem]
        rw [hnil]
        show _ = _
        kernel_rfl
  · obtain ⟨hkl, h6⟩ := shape_labs hs.sh h0
    have h8 : t.kind ≠ 8 := by
      intro h8
      have := hs.sh
      unfold shapeB at this
      simp only [h8] at this
      simp at this
      rw [this.2.2.2.1] at h0
      exact h0 rfl
    have hne : decide ((t.labels.length : Int) = 0) = false := decide_eq_false (by omega)
    rw [if_neg (fun h => by rcases h with h | h; exact h0 h; exact h8 h)]
    refine obind_loop (e := ?e3) (I := tuI t) (n := t.labels.length) (by kernel_rfl) (tu_step1 t hw hkl ih') ?he3 ?hn3 ?rest3
    case he3 =>
      unfold c26_l1 tuI tuO bxT
      simp only [go_sem, dn]
      rfl
    case hn3 => intro h; cases h
    case rest3 =>
      have hp : decide ((0 : Int) < (t.kids.length : Int)) = true := decide_eq_true (by omega)
      have ht1 : t.labels.reverse.take t.labels.length = t.labels.reverse := by rw [List.take_of_length_le (by rw [List.length_reverse]; omega)]
      have ht2 : t.kids.reverse.take t.labels.length = t.kids.reverse := by rw [List.take_of_length_le (by rw [List.length_reverse]; omega)]
      simp only [go_sem, ht1, ht2]
      refine obind_loop (e := ?e4) (I := tuK t t.labels.reverse (fun _ => t.kids.reverse.map turnE)) (n := 0) (by kernel_rfl) (fun i hi => by omega) ?he4 ?hn4 ?rest4
      case he4 =>
        unfold c26_l0 tuK tuO bxT
        simp only [go_sem, hp, hne]
        rfl
      case hn4 => intro h; cases h
      case rest4 =>
        simp only [go_sem]
        rw [show t.kids.reverse.map turnE = (t.kids.map turnE).reverse from List.map_reverse.symm ▸ rfl]
        show _ = _
        kernel_rfl
end Go.Proofs.Ytijfioakpngdhaa

namespace Go.Proofs.Ytijfioakpngdhaa
open Go.V
set_option maxRecDepth 100000
set_option linter.unusedSimpArgs false
set_option linter.unusedVariables false

theorem nA_iff {N : List Nd} {i k : Nat} : alB N (nR i) (nR k) = true ↔ EqP N true ((i : Int), (k : Int), 0) := by
  rw [alB_iff]; unfold key3 ndf nR; rw [if_pos rfl]
theorem nA_symm {N : List Nd} {B : Int} (hG : GOk N B) (i k : Nat) : alB N (nR i) (nR k) = alB N (nR k) (nR i) := by
  have h : ∀ i k : Nat, alB N (nR i) (nR k) = true → alB N (nR k) (nR i) = true := fun i k h => nA_iff.2 (by have := eqp_symm hG (nA_iff.1 h); rw [Int.neg_zero] at this; exact this)
  cases h1 : alB N (nR i) (nR k) with
  | true => exact (h i k h1).symm
  | false =>
    cases h2 : alB N (nR k) (nR i) with
    | false => rfl
    | true => rw [h k i h2] at h1; exact h1.symm
theorem nB_alike {N : List Nd} {i k : Nat} (h : eqB N (nR i) (nR k) = true) : alB N (nR i) (nR k) = true := nA_iff.2 (eqp_alike (nB_iff.1 h))
theorem rf4 (a b c d : T) (ha : Rgt a) (hb : Rgt b) (hc : Rgt c) (hd : Rgt d) : nextsL [a, b, c, d] 0 [] [] = [nR 0, nR (cnt a), nR (cnt a + cnt b), nR (cnt a + cnt b + cnt c)] := by
  rw [nextsL, nextsL, nextsL, nextsL, nextsL, refE_topR ha, refE_topR hb, refE_topR hc, refE_topR hd]
  unfold nR
  congr 1
  congr 1
  · congr 1; omega
  · congr 1
    · congr 1; omega
    · congr 1; congr 1; omega
theorem turn_cnt (t : T) : cnt (turnE t) = cnt t := by
  induction t using T.ind with
  | h t ih =>
  have app : ∀ l m : List T, cntL (l ++ m) = cntL l + cntL m := by
    intro l m
    induction l with
    | nil => rw [List.nil_append, cntL]; omega
    | cons x l ih => rw [List.cons_append, cntL, cntL, ih]; omega
  have rev : ∀ l : List T, cntL l.reverse = cntL l := by
    intro l
    induction l with
    | nil => rfl
    | cons x l ih => rw [List.reverse_cons, app, ih, cntL, cntL, cntL]; omega
  have mp : ∀ l : List T, (∀ s ∈ l, s ∈ t.kids) → cntL (l.map turnE) = cntL l := by
    intro l
    induction l with
    | nil => intro _; rfl
    | cons x l ihl => intro h; rw [List.map_cons, cntL, cntL, ih x (h x List.mem_cons_self), ihl fun s hs => h s (List.mem_cons_of_mem _ hs)]
  have e : cntL (if t.labels.length = 0 ∨ t.kind = 8 then t.kids.map turnE else (t.kids.map turnE).reverse) = cntL t.kids := by
    split
    · rw [mp _ fun s h => h]
    · rw [rev, mp _ fun s h => h]
  rw [cnt_eq, cnt_eq t, turn_kind, turn_kids, e]
theorem equalChains_run (a b c : T) (hwa : Wf a) (hwb : Wf b) (hwc : Wf c) : RW 6 [.d a.data, .d b.data, .d c.data] [] = some (.d (.bool true), []) := by
  have hw := awake10_run
  have sa := small_run a 40 hwa (by omega) (by omega)
  have sb := small_run b 40 hwb (by omega) (by omega)
  have sc := small_run c 40 hwc (by omega) (by omega)
  have da := T.data_eq a
  have db := T.data_eq b
  have dc := T.data_eq c
  cases ha : smallB a 40 with
  | false =>
    rw [da] at sa ⊢
    rw [db, dc]
    refine runW_fn rfl rfl ?_
    unfold runFn c6
    simp only [go_sem, hw, sa, ha]
  | true =>
    cases hb : smallB b 40 with
    | false =>
      rw [da] at sa ⊢
      rw [db] at sb ⊢
      rw [dc]
      refine runW_fn rfl rfl ?_
      unfold runFn c6
      simp only [go_sem, hw, sa, ha, sb, hb]
    | true =>
      cases hc : smallB c 40 with
      | false =>
        rw [da] at sa ⊢
        rw [db] at sb ⊢
        rw [dc] at sc ⊢
        refine runW_fn rfl rfl ?_
        unfold runFn c6
        simp only [go_sem, hw, sa, ha, sb, hb, sc, hc]
      | true =>
        have ra := small_rgt hwa (by omega) ha
        have rb := small_rgt hwb (by omega) hb
        have rc := small_rgt hwc (by omega) hc
        have rd := turn_rgt ra
        have ht := turn_run a ra.shp hwa
        have za := (small_out hwa (by omega) ha).1
        have zb := (small_out hwb (by omega) hb).1
        have zc := (small_out hwc (by omega) hc).1
        have zd := turn_size a
        have cd := turn_cnt a
        have hall : ∀ t ∈ [a, b, c, turnE a], Rgt t := fun t h => by
          simp only [List.mem_cons, List.not_mem_nil, or_false] at h
          rcases h with h | h | h | h <;> subst h <;> assumption
        have hsz : T.sizeL [a, b, c, turnE a] ≤ 1000 := by rw [T.sizeL, T.sizeL, T.sizeL, T.sizeL, T.sizeL]; omega
        have hfine := fineR hall (by simp; omega)
        have hg := graph_run _ hfine
        have hG := graph_okR (l := [a, b, c, turnE a]) (by simp) hall hsz
        obtain ⟨ty, hT⟩ := graph_gtR _ hall
        have hlen := nodesL_len [a, b, c, turnE a] 0 [] [] hfine.shp
        have hcl : cntL [a, b, c, turnE a] = cnt a + cnt b + cnt c + cnt a := by rw [cntL, cntL, cntL, cntL, cntL]; omega
        have ca := ra.cnt
        have cb := rb.cnt
        have cc := rc.cnt
        rw [rf4 a b c (turnE a) ra rb rc rd] at hg hT
        rw [hcl] at hlen
        generalize hud : turnE a = u at *
        generalize nodesL [a, b, c, u] 0 [] [] = N at *
        have gp0 := hT.ref 0 (nR 0) a rfl rfl
        have gp3 := hT.ref 3 (nR (cnt a + cnt b + cnt c)) u rfl rfl
        have hET := eqt_turn hG hT.node gp0 (by unfold nR; dsimp only; omega)
        rw [hud] at hET
        have hE3 := eqp_of_eqt hG hT.node gp0 gp3 (by unfold nR; dsimp only; omega) (by unfold nR; dsimp only; omega) (by unfold nR; dsimp only; omega) hET
        have b3 : eqB N (nR 0) (nR (cnt a + cnt b + cnt c)) = true := nB_iff.2 hE3
        have l0 : 0 < N.length := by omega
        have l1 : cnt a < N.length := by omega
        have l2 : cnt a + cnt b < N.length := by omega
        have l3 : cnt a + cnt b + cnt c < N.length := by omega
        clear hlen hcl
        generalize cnt a + cnt b + cnt c = n3 at *
        generalize cnt a + cnt b = n2 at *
        generalize cnt a = n1 at *
        have k0 : RefOk N (nR 0) := nR_ok l0
        have k1 : RefOk N (nR n1) := nR_ok l1
        have k2 : RefOk N (nR n2) := nR_ok l2
        have k3 : RefOk N (nR n3) := nR_ok l3
        have q01 := equal_run hG k0 k1
        have q12 := equal_run hG k1 k2
        have q02 := equal_run hG k0 k2
        have q10 := equal_run hG k1 k0
        have q03 := equal_run hG k0 k3
        have a01 := alike_run hG k0 k1
        have a10 := alike_run hG k1 k0
        rw [b3] at q03
        rw [nB_symm hG n1 0] at q10
        rw [nA_symm hG n1 0] at a10
        have t1 : eqB N (nR 0) (nR n1) = true → eqB N (nR n1) (nR n2) = true → eqB N (nR 0) (nR n2) = true := nB_trans
        have t2 : eqB N (nR 0) (nR n1) = true → alB N (nR 0) (nR n1) = true := nB_alike
        generalize eqB N (nR 0) (nR n1) = x at *
        generalize eqB N (nR n1) (nR n2) = y at *
        generalize eqB N (nR 0) (nR n2) = z at *
        generalize alB N (nR 0) (nR n1) = w at *
        unfold nR at q01 q12 q02 q10 q03 a01 a10 hg
        simp only [Rf.data_eq, cast0] at q01 q12 q02 q10 q03 a01 a10
        rw [List.map_cons, List.map_cons, List.map_cons, List.map_cons, List.map_nil, da, db, dc, T.data_eq u] at hg
        unfold tyV at ht
        rw [da] at sa ht ⊢
        rw [db] at sb ⊢
        rw [dc] at sc ⊢
        refine runW_fn rfl rfl ?_
        unfold runFn c6
        cases x with
        | false => cases w <;> simp only [go_sem, hw, sa, ha, sb, hb, sc, hc, ht, hg, Rf.data_eq, q01, q12, q02, q10, q03, a01, a10]
        | true =>
          have e2 := t2 rfl
          subst e2
          cases y with
          | false => simp only [go_sem, hw, sa, ha, sb, hb, sc, hc, ht, hg, Rf.data_eq, q01, q12, q02, q10, q03, a01, a10]
          | true =>
            have e1 := t1 rfl rfl
            subst e1
            simp only [go_sem, hw, sa, ha, sb, hb, sc, hc, ht, hg, Rf.data_eq, q01, q12, q02, q10, q03, a01, a10]
end Go.Proofs.Ytijfioakpngdhaa
