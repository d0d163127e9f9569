/- The walks: the reference's graph, its counts and references. -/
import Derived.Test.YtijfioakpngdhaaDoorME
namespace Go.Proofs.YtijfioakpngdhaaDoor
open Go.V
set_option maxRecDepth 100000
set_option linter.unusedSimpArgs false
set_option linter.unusedVariables false

@[go_sem] theorem x_fla (cs : List V.Data) : (V.Data.agg cs).flat = V.Data.flat.flatL cs := rfl
@[go_sem] theorem x_fl0 : V.Data.flat.flatL [] = true := rfl
@[go_sem] theorem x_flc (x : V.Data) (l : List V.Data) : V.Data.flat.flatL (x :: l) = (x.flat && V.Data.flat.flatL l) := rfl
attribute [go_sem] List.set_cons_zero List.set_cons_succ
/-- a reference, and a node, as data -/
structure Rf where
  node : Int
  shift : Int
  deriving Inhabited
def Rf.data (r : Rf) : V.Data := .agg [.int .i64 r.node, .int .i64 r.shift]
structure Nd where
  kind : Int
  prio : Int
  labels : List (List UInt8)
  next : List Rf
  deriving Inhabited
def Nd.data (n : Nd) : V.Data := .agg [.int .i64 n.kind, .int .i64 n.prio, .sl 1 (n.labels.map .str), .sl 2 (n.next.map Rf.data)]

/-- each node has the fields of its kind -/
inductive Shp : T → Prop
  | mk (t : T) (h : shapeB t = true) (k : ∀ s ∈ t.kids, Shp s) : Shp t
theorem Shp.sh {t : T} (h : Shp t) : shapeB t = true := by cases h; assumption
theorem Shp.kid {t : T} (h : Shp t) : ∀ s ∈ t.kids, Shp s := by cases h; assumption
theorem Shp.one {t : T} (h : Shp t) (h8 : t.kind = 8) : ∃ s, t.kids = [s] := by
  have := h.sh
  unfold shapeB at this
  simp only [h8] at this
  simp at this
  exact List.length_eq_one_iff.1 (by omega)
theorem Shp.var {t : T} (h : Shp t) (h9 : t.kind = 9) : t.kids = [] ∧ 0 ≤ t.shift ∧ t.shift ≤ 1000000 := by
  have := h.sh
  unfold shapeB prioB at this
  simp only [h9] at this
  simp at this
  exact ⟨List.eq_nil_of_length_eq_zero (by have := this.2.2.2.2; simpa using this), this.2.2.1⟩

mutual
def cnt : T → Nat
  | .mk k _ _ _ _ ks => (if k ≤ 7 then 1 else 0) + cntL ks
def cntL : List T → Nat
  | [] => 0
  | t :: l => cnt t + cntL l
end
theorem cnt_eq (t : T) : cnt t = (if t.kind ≤ 7 then 1 else 0) + cntL t.kids := by cases t; rw [cnt]; rfl
theorem cntL_take (l : List T) (i : Nat) (s : T) (h : l[i]? = some s) : cntL (l.take (i + 1)) = cntL (l.take i) + cnt s := by
  induction l generalizing i with
  | nil => cases h
  | cons t l ih =>
    cases i with
    | zero => injection h with h; subst h; simp [cntL]
    | succ i => simp only [List.take_succ_cons, cntL]; rw [ih i h]; omega
theorem cnt_le (t : T) : cnt t ≤ t.size := by
  induction t using T.ind with
  | h t ih =>
  rw [cnt_eq, T.size_eq]
  have : ∀ l : List T, (∀ s ∈ l, cnt s ≤ s.size) → cntL l ≤ T.sizeL l := by
    intro l
    induction l with
    | nil => intro _; simp [cntL]
    | cons x l ihl =>
      intro hx
      have h1 := hx x List.mem_cons_self
      have h2 := ihl fun s hs => hx s (List.mem_cons_of_mem _ hs)
      rw [cntL, T.sizeL]; omega
  have := this t.kids ih
  split <;> omega
theorem cntL_le (l : List T) (i : Nat) : cntL (l.take i) ≤ cntL l := by
  induction l generalizing i with
  | nil => simp [cntL]
  | cons t l ih =>
    cases i with
    | zero => simp [cntL]
    | succ i => simp only [List.take_succ_cons, cntL]; have := ih i; omega
theorem cntL_size (l : List T) : cntL l ≤ T.sizeL l := by
  induction l with
  | nil => simp [cntL]
  | cons t l ih => rw [cntL, T.sizeL]; have := cnt_le t; omega
def ctI (t : T) (i : Nat) : St := ⟨[(1, .ptr 0 0), (3, .d (.int .i64 ((if t.kind ≤ 7 then 1 else 0) + cntL (t.kids.take i) : Nat))), (4, .d (.int .i64 i))], bx t, 1, 0, false⟩
theorem cnt_run (t : T) : t.size < 1000000000 → Wf t → RW 56 [.d t.data] [] = some (.d (.int .i64 (cnt t)), []) := by
  induction t using T.ind with
  | h t ih =>
  intro hs hw
  have hlen := hw.len
  have hs' := T.size_eq t
  have hc' := cnt_eq t
  have hcl := cnt_le t
  obtain ⟨e, h2, hq⟩ := loop_p (keep := [1, 3, 4]) (c := c56_l0) (I := ctI t) (n := t.kids.length) (P := fun _ => True) (Q := QE (fun fr => fget fr 3 = .d (.int .i64 (cnt t))) 0 (fun _ => False)) (fun i hi _ => by
    have hi' : (i : Int) < t.kids.length := by omega
    have hk := kidAt hi
    have hsz := cntL_take t.kids i _ hk
    have hle := cntL_le t.kids (i + 1)
    have hss := T.size_mem (List.getElem_mem hi)
    have hih := ih t.kids[i] (List.getElem_mem hi) (by omega) (hw.kid (List.getElem_mem hi))
    rw [T.data_eq] at hih
    refine .inl ⟨?s, ?h1, ?h2, trivial⟩
    case h1 =>
      unfold c56_l0 ctI bx
      simp only [go_sem, hi', hk, T.data_eq t.kids[i], hih]
      rfl
    case h2 =>
      rw [wrap64 (by omega) (by omega), wrap64 (by omega) (by omega), show ((((if t.kind ≤ 7 then 1 else 0) + cntL (List.take i t.kids) : Nat) : Int) + (cnt t.kids[i] : Int)) = (((if t.kind ≤ 7 then 1 else 0) + cntL (List.take (i + 1) t.kids) : Nat) : Int) by omega]
      kernel_rfl) (fun _ => by
    refine ⟨?e, ?h1, ?h2, ?h3⟩
    case h1 =>
      unfold c56_l0 ctI bx
      simp only [go_sem, List.take_length, ← hc']
      rfl
    case h2 => intro h; cases h
    case h3 => exact ⟨.inl ⟨rfl, rfl⟩, rfl, rfl⟩) t.kids.length 0 (by omega) trivial
  rcases hq.out with ⟨fr, ob, nx, rfl, h4⟩ | ⟨fr, ob, nx, rfl, h4⟩
  · refine runW_fn rfl rfl ?_
    unfold runFn c56
    by_cases h7 : t.kind ≤ 7
    · have e0 : ctI t 0 = ⟨[(1, .ptr 0 0), (3, .d (.int .i64 1)), (4, .d (.int .i64 0))], bx t, 1, 0, false⟩ := by
        unfold ctI; rw [if_pos h7]; rfl
      rw [e0] at h2
      simp only [go_sem, T.data_eq t, decide_eq_true h7]
      refine obind_mk (Eq.trans (by kernel_rfl) h2) ?_
      simp only [go_sem, h4]
    · have e0 : ctI t 0 = ⟨[(1, .ptr 0 0), (3, .d (.int .i64 0)), (4, .d (.int .i64 0))], bx t, 1, 0, false⟩ := by
        unfold ctI; rw [if_neg h7]; rfl
      rw [e0] at h2
      simp only [go_sem, T.data_eq t, decide_eq_false h7]
      refine obind_mk (Eq.trans (by kernel_rfl) h2) ?_
      simp only [go_sem, h4]
  · exact h4.elim

/-- the last of some names, as a reference -/
def lookR (names : List (List UInt8)) (refs : List Rf) (x : List UInt8) (s : Int) (z : Rf) : Nat → Rf
  | 0 => z
  | m + 1 => if names[m]? = some x then ⟨(refs[m]?.getD default).node, (refs[m]?.getD default).shift + s⟩ else lookR names refs x s z m
theorem lookR_succ (names : List (List UInt8)) (refs : List Rf) (x : List UInt8) (s : Int) (z : Rf) (m : Nat) : lookR names refs x s z (m + 1) = if names[m]? = some x then ⟨(refs[m]?.getD default).node, (refs[m]?.getD default).shift + s⟩ else lookR names refs x s z m := rfl
mutual
def refE : T → Int → List (List UInt8) → List Rf → Rf
  | .mk k _ n s _ ks, a, names, refs => if k = 8 then refE1 ks a names refs else if k = 9 then lookR names refs n s ⟨a, 0⟩ names.length else ⟨a, 0⟩
def refE1 : List T → Int → List (List UInt8) → List Rf → Rf
  | [], a, _, _ => ⟨a, 0⟩
  | t :: _, a, names, refs => refE t a names refs
end
theorem refE_eq (t : T) (a : Int) (names : List (List UInt8)) (refs : List Rf) : refE t a names refs = if t.kind = 8 then refE1 t.kids a names refs else if t.kind = 9 then lookR names refs t.name t.shift ⟨a, 0⟩ names.length else ⟨a, 0⟩ := by
  cases t; rw [refE]; rfl

def ox (r : AV) : Objs := [(1, some (.box [r]))]
def rlI (t : T) (a : Int) (names : List (List UInt8)) (refs : List Rf) (j : Nat) : St := ⟨[(1, .d (.int .i64 a)), (2, .d (.sl 1 (names.map .str))), (3, .d (.sl 2 (refs.map Rf.data))), (4, .ptr 0 0), (8, .ptr 1 0), (9, .d (.int .i64 ((names.length : Int) - ((j + 1 : Nat) : Int))))],
  [(0, some (.box [.d (.int .i64 t.kind), .d (.int .i64 t.prio), .d (.str t.name), .d (.int .i64 t.shift), .d (.sl 1 (t.labels.map .str)), .d (.sl 6 (t.kids.map T.data))])), (1, some (.box [.d (.int .i64 0), .d (.int .i64 0)]))], 2, 0, false⟩
/-- the function's result cell -/
def RC (r : Rf) (e : St) : Prop := loadR true 2 e.ob (fget e.fr 8) = some ⟨.d r.data, [], [1]⟩
theorem ref_loop (t : T) (a : Int) (names : List (List UInt8)) (refs : List Rf) (hn : names.length < 1000000000) (hr : refs.length = names.length) (hsh : ∀ r ∈ refs, -1000000000000000000 ≤ r.shift + t.shift ∧ r.shift + t.shift ≤ 1000000000000000000) :
    ∃ e, LW [1, 2, 3, 4, 8, 9] c32_l0 (rlI t a names refs 0) = some e ∧ ((e.1 = .exit 0 ∧ lookR names refs t.name t.shift ⟨a, 0⟩ names.length = ⟨a, 0⟩ ∧ (∃ nx, ∃ fr, e.2 = ⟨fr, (rlI t a names refs 0).ob, nx, 0, false⟩ ∧ fget fr 8 = .ptr 1 0 ∧ fget fr 1 = .d (.int .i64 a))) ∨
      (e.1 = .ret ∧ RC (lookR names refs t.name t.shift ⟨a, 0⟩ names.length) e.2 ∧ e.2.m = 0 ∧ e.2.ro = false)) := by
  refine loop_p (keep := [1, 2, 3, 4, 8, 9]) (c := c32_l0) (I := rlI t a names refs) (n := names.length) (Q := fun e => (e.1 = .exit 0 ∧ lookR names refs t.name t.shift ⟨a, 0⟩ names.length = ⟨a, 0⟩ ∧ (∃ nx, ∃ fr, e.2 = ⟨fr, (rlI t a names refs 0).ob, nx, 0, false⟩ ∧ fget fr 8 = .ptr 1 0 ∧ fget fr 1 = .d (.int .i64 a))) ∨
      (e.1 = .ret ∧ RC (lookR names refs t.name t.shift ⟨a, 0⟩ names.length) e.2 ∧ e.2.m = 0 ∧ e.2.ro = false)) (P := fun j => lookR names refs t.name t.shift ⟨a, 0⟩ names.length = lookR names refs t.name t.shift ⟨a, 0⟩ (names.length - j)) (fun j hj hp => ?_) (fun hp => ?_) names.length 0 (by omega) rfl
  · have h0 : decide (0 ≤ (names.length : Int) - ((j + 1 : Nat) : Int)) = true := by simp; omega
    have ht : ((names.length : Int) - ((j + 1 : Nat) : Int)).toNat = names.length - 1 - j := by omega
    have hk : names[names.length - 1 - j]? = some (names[names.length - 1 - j]'(by omega)) := List.getElem?_eq_getElem _
    have hk2 : refs[names.length - 1 - j]? = some (refs[names.length - 1 - j]'(by omega)) := List.getElem?_eq_getElem _
    have hst : names.length - j = (names.length - 1 - j) + 1 := by omega
    rw [hst, lookR_succ] at hp
    have hs := hsh (refs[names.length - 1 - j]'(by omega)) (List.getElem_mem _)
    generalize hx : names[names.length - 1 - j]'(by omega) = x at hk
    generalize hy : refs[names.length - 1 - j]'(by omega) = y at hk2 hs
    rw [hk, hk2] at hp
    by_cases h : x = t.name
    · rw [if_pos (by rw [h])] at hp
      have h' := decide_eq_true h
      refine .inr ⟨?e1, ?h1, ?h2, ?h3⟩
      case h1 =>
        unfold c32_l0 rlI
        simp only [go_sem, h0, ht, hk, hk2, h', Rf.data]
        rfl
      case h2 => intro h; cases h
      case h3 =>
        refine Or.inr (And.intro rfl (And.intro ?_ (And.intro rfl rfl)))
        rw [hp, wrap64 (by omega) (by omega)]
        rfl
    · rw [if_neg (fun e => h (Option.some.inj e))] at hp
      refine .inl ⟨?sx, ?h1, ?h2, ?h3⟩
      case h1 =>
        unfold c32_l0 rlI
        simp only [go_sem, h0, ht, hk, h]
        rfl
      case h2 =>
        rw [wrap64 (by omega) (by omega), show ((names.length : Int) - ((j + 1 : Nat) : Int) - 1) = (names.length : Int) - ((j + 1 + 1 : Nat) : Int) by omega]
        kernel_rfl
      case h3 => rw [hp, show names.length - (j + 1) = names.length - 1 - j by omega]
  · have h0 : decide (0 ≤ (names.length : Int) - ((names.length + 1 : Nat) : Int)) = false := by simp; omega
    rw [Nat.sub_self] at hp
    refine ⟨?e, ?h1, ?h2, ?h3⟩
    case h1 =>
      unfold c32_l0 rlI
      simp only [go_sem, h0]
      rfl
    case h2 => intro h; cases h
    case h3 =>
      left
      refine ⟨rfl, hp, _, _, rfl, rfl, rfl⟩

theorem ref_run (t : T) : ∀ (a : Int) (names : List (List UInt8)) (refs : List Rf), Shp t → names.length < 1000000000 → refs.length = names.length → (∀ r ∈ refs, 0 ≤ r.shift ∧ r.shift ≤ 100000000000000000) →
    RW 32 [.d t.data, .d (.int .i64 a), .d (.sl 1 (names.map .str)), .d (.sl 2 (refs.map Rf.data))] [] = some (.d (refE t a names refs).data, []) := by
  induction t using T.ind with
  | h t ih =>
  intro a names refs hs hn hr hsh
  refine runW_fn rfl rfl ?_
  unfold runFn c32
  rw [refE_eq]
  by_cases h8 : t.kind = 8
  · obtain ⟨s, hk⟩ := hs.one h8
    have hm : s ∈ t.kids := by rw [hk]; exact List.mem_singleton.2 rfl
    have hg : t.kids[0]? = some s := by rw [hk]; rfl
    have hu := ih s hm a names refs (hs.kid s hm) hn hr hsh
    rw [if_pos h8, hk, refE1]
    rw [T.data_eq] at hu
    unfold Rf.data at hu
    unfold Rf.data
    simp only [go_sem, T.data_eq t, decide_eq_true h8, hg, T.data_eq s, hu]
  · rw [if_neg h8]
    by_cases h9 : t.kind = 9
    · rw [if_pos h9]
      have hv := hs.var h9
      obtain ⟨e, hl, hq⟩ := ref_loop t a names refs hn hr (fun r hr => by have := hsh r hr; omega)
      obtain ⟨o, st⟩ := e
      rcases hq with ⟨h1, h2, nx, fr, h3, h4, h5⟩ | ⟨h1, h2, h3, h4⟩
      · dsimp only at h1 h3
        subst h1; subst h3
        rw [h2]
        simp only [go_sem, T.data_eq t, h8, decide_eq_true h9]
        rw [wrap64 (by omega) (by omega)]
        refine obind_mk (Eq.trans (by kernel_rfl) hl) ?_
        unfold rlI
        simp only [go_sem, h4, h5]
        rfl
      · obtain ⟨fr, ob, nx, m, ro⟩ := st
        dsimp only at h1 h3 h4
        subst h1; subst h3; subst h4
        simp only [go_sem, T.data_eq t, h8, decide_eq_true h9]
        rw [wrap64 (by omega) (by omega)]
        refine obind_mk (Eq.trans (by kernel_rfl) hl) ?_
        unfold RC at h2
        simp only [go_sem, h2]
    · rw [if_neg h9]
      unfold Rf.data
      simp only [go_sem, T.data_eq t, h8, h9]
end Go.Proofs.YtijfioakpngdhaaDoor

namespace Go.Proofs.YtijfioakpngdhaaDoor
open Go.V
set_option maxRecDepth 100000
set_option linter.unusedSimpArgs false
set_option linter.unusedVariables false

@[go_sem] theorem x_backo (ro : Bool) (base sz : Nat) (xs : List V.Data) (u : Bool) (sh : Objs) (rd : List Nat) : callBack ⟨false, true, ro⟩ base [] sh rd (.own 0, [(0, some (.arr sz xs u))]) = some ⟨.own base, (base, some (.arr sz xs u)) :: sh, rd⟩ := by
  unfold callBack
  cases ro <;> rfl
@[go_sem] theorem x_toDat (ob : Objs) (cs : List AV) : AV.toData ob (.agg cs) = (allSome (AV.toD ob) cs).map .agg := rfl
@[go_sem] theorem x_toDao (ob : Objs) (o : Nat) : AV.toData ob (.own o) = (match oget ob o with | some (.arr sz xs _) => some (V.Data.sl sz xs) | _ => none) := rfl
@[go_sem] theorem x_sha (cs : List AV) (l : List AV) : sharedL (.agg cs :: l) = ownNamesL cs ++ sharedL l := rfl
@[go_sem] theorem x_on0 : ownNamesL [] = [] := rfl
@[go_sem] theorem x_on1 (v : AV) (l : List AV) : ownNamesL (v :: l) = v.ownNames ++ ownNamesL l := rfl
attribute [go_sem] Option.map_none
theorem sizes_rf : ∀ l : List Rf, sizesOk 2 (l.map Rf.data) = true
  | [] => rfl
  | x :: l => by
    show (decide (x.data.cells.length = 2) && sizesOk 2 (l.map Rf.data)) = true
    rw [sizes_rf l]; rfl
theorem sizes_nd : ∀ l : List Nd, sizesOk 4 (l.map Nd.data) = true
  | [] => rfl
  | x :: l => by
    show (decide (x.data.cells.length = 4) && sizesOk 4 (l.map Nd.data)) = true
    rw [sizes_nd l]; rfl

def nextsL : List T → Int → List (List UInt8) → List Rf → List Rf
  | [], _, _, _ => []
  | t :: l, a, names, refs => refE t a names refs :: nextsL l (a + cnt t) names refs
mutual
def nodesE : T → Int → List (List UInt8) → List Rf → List Nd
  | .mk k p n s ls ks, a, names, refs => if k = 8 then nodes1 ks a (names ++ [n]) (refs ++ [refE (.mk k p n s ls ks) a names refs]) else if k = 9 then [] else ⟨k, p, ls, nextsL ks (a + 1) names refs⟩ :: nodesL ks (a + 1) names refs
def nodes1 : List T → Int → List (List UInt8) → List Rf → List Nd
  | [], _, _, _ => []
  | t :: _, a, names, refs => nodesE t a names refs
def nodesL : List T → Int → List (List UInt8) → List Rf → List Nd
  | [], _, _, _ => []
  | t :: l, a, names, refs => nodesE t a names refs ++ nodesL l (a + cnt t) names refs
end
theorem nodesE_eq (t : T) (a : Int) (names : List (List UInt8)) (refs : List Rf) : nodesE t a names refs = if t.kind = 8 then nodes1 t.kids a (names ++ [t.name]) (refs ++ [refE t a names refs]) else if t.kind = 9 then [] else ⟨t.kind, t.prio, t.labels, nextsL t.kids (a + 1) names refs⟩ :: nodesL t.kids (a + 1) names refs := by
  cases t; rw [nodesE]; rfl
theorem nextsL_take (names : List (List UInt8)) (refs : List Rf) : ∀ (l : List T) (a : Int) (i : Nat) (s : T), l[i]? = some s → nextsL (l.take (i + 1)) a names refs = nextsL (l.take i) a names refs ++ [refE s (a + cntL (l.take i)) names refs]
  | t :: l, a, 0, s, h => by
    injection h with h; subst h
    show [refE t a names refs] = [refE t (a + (0 : Nat)) names refs]
    rw [show a + ((0 : Nat) : Int) = a by omega]
  | t :: l, a, i + 1, s, h => by
    simp only [List.take_succ_cons, nextsL, cntL, List.cons_append]
    rw [nextsL_take names refs l (a + cnt t) i s h, show a + (cnt t : Int) + (cntL (l.take i) : Int) = a + ((cnt t + cntL (l.take i) : Nat) : Int) by omega]
theorem nodesL_take (names : List (List UInt8)) (refs : List Rf) : ∀ (l : List T) (a : Int) (i : Nat) (s : T), l[i]? = some s → nodesL (l.take (i + 1)) a names refs = nodesL (l.take i) a names refs ++ nodesE s (a + cntL (l.take i)) names refs
  | t :: l, a, 0, s, h => by
    injection h with h; subst h
    show nodesE t a names refs ++ [] = [] ++ nodesE t (a + (0 : Nat)) names refs
    rw [show a + ((0 : Nat) : Int) = a by omega]; simp
  | t :: l, a, i + 1, s, h => by
    simp only [List.take_succ_cons, nodesL, cntL]
    rw [nodesL_take names refs l (a + cnt t) i s h, show a + (cnt t : Int) + (cntL (l.take i) : Int) = a + ((cnt t + cntL (l.take i) : Nat) : Int) by omega, List.append_assoc]
theorem nextsL_len (names : List (List UInt8)) (refs : List Rf) : ∀ (l : List T) (a : Int), (nextsL l a names refs).length = l.length
  | [], _ => rfl
  | t :: l, a => congrArg (· + 1) (nextsL_len names refs l (a + cnt t))
theorem shape_kinds {t : T} (h : shapeB t = true) : 1 ≤ t.kind ∧ t.kind ≤ 9 := by
  unfold shapeB at h
  by_cases h1 : t.kind = 1 <;> by_cases h2 : t.kind = 2 <;> by_cases h3 : t.kind = 3 <;> by_cases h4 : t.kind = 4 <;> by_cases h5 : t.kind = 5 <;> by_cases h6 : t.kind = 6 <;> by_cases h7 : t.kind = 7 <;> by_cases h8 : t.kind = 8 <;> by_cases h9 : t.kind = 9 <;> first | omega | (simp [h1, h2, h3, h4, h5, h6, h7, h8, h9] at h)
theorem nodesE_len (t : T) : ∀ (a : Int) (names : List (List UInt8)) (refs : List Rf), Shp t → (nodesE t a names refs).length = cnt t := by
  induction t using T.ind with
  | h t ih =>
  intro a names refs hs
  have hL : ∀ (l : List T) (a : Int) (names : List (List UInt8)) (refs : List Rf), (∀ s ∈ l, s ∈ t.kids) → (nodesL l a names refs).length = cntL l := by
    intro l
    induction l with
    | nil => intro _ _ _ _; rfl
    | cons x l ihl =>
      intro a names refs hx
      rw [nodesL, cntL, List.length_append, ihl _ _ _ fun s hs => hx s (List.mem_cons_of_mem _ hs), ih x (hx x List.mem_cons_self) _ _ _ (hs.kid x (hx x List.mem_cons_self))]
  have hk := shape_kinds hs.sh
  rw [nodesE_eq, cnt_eq]
  by_cases h8 : t.kind = 8
  · obtain ⟨s, hks⟩ := hs.one h8
    have hm : s ∈ t.kids := by rw [hks]; exact List.mem_singleton.2 rfl
    rw [if_pos h8, hks, nodes1, ih s hm _ _ _ (hs.kid s hm), if_neg (by omega)]
    simp [cntL]
  · rw [if_neg h8]
    by_cases h9 : t.kind = 9
    · rw [if_pos h9, (hs.var h9).1, if_neg (by omega)]; rfl
    · rw [if_neg h9, if_pos (by omega), List.length_cons, hL _ _ _ _ fun s hs => hs]; omega
theorem nodesL_len (l : List T) (a : Int) (names : List (List UInt8)) (refs : List Rf) (hs : ∀ s ∈ l, Shp s) : (nodesL l a names refs).length = cntL l := by
  induction l generalizing a with
  | nil => rfl
  | cons x l ihl =>
    rw [nodesL, cntL, List.length_append, ihl _ fun s h => hs s (List.mem_cons_of_mem _ h), nodesE_len x _ _ _ (hs x List.mem_cons_self)]

def ndI (t : T) (a : Int) (names : List (List UInt8)) (refs : List Rf) (i : Nat) : St := ⟨[(2, .d (.sl 1 (names.map .str))), (3, .d (.sl 2 (refs.map Rf.data))), (4, .ptr 0 0), (10, .ptr 1 0), (11, .own 3), (12, .d (.int .i64 (a + cntL (t.kids.take i)))), (13, .d (.int .i64 i))],
  [(0, some (.box [.d (.int .i64 t.kind), .d (.int .i64 t.prio), .d (.str t.name), .d (.int .i64 t.shift), .d (.sl 1 (t.labels.map .str)), .d (.sl 6 (t.kids.map T.data))])), (1, some (.box [.d (.int .i64 t.kind), .d (.int .i64 t.prio), .d (.sl 1 (t.labels.map .str)), .own 2])),
   (2, some (.arr 2 ((nextsL (t.kids.take i) a names refs).map Rf.data) true)), (3, some (.arr 4 ((nodesL (t.kids.take i) a names refs).map Nd.data) true))], 4, 0, false⟩

theorem nd_step (t : T) (a : Int) (names : List (List UInt8)) (refs : List Rf) (i : Nat) (hi : i < t.kids.length) (hlen : t.kids.length < 1000000000) (hw : Wf t) (hsz : t.size < 1000000000) (hs : Shp t) (ha : 0 ≤ a ∧ a + T.sizeL t.kids ≤ 1000000000000)
    (h1 : ∀ s ∈ t.kids, ∀ a : Int, RW 32 [.d s.data, .d (.int .i64 a), .d (.sl 1 (names.map .str)), .d (.sl 2 (refs.map Rf.data))] [] = some (.d (refE s a names refs).data, []))
    (h2 : ∀ s ∈ t.kids, ∀ a : Int, 0 ≤ a → a + s.size ≤ 1000000000000 → RW 33 [.d s.data, .d (.int .i64 a), .d (.sl 1 (names.map .str)), .d (.sl 2 (refs.map Rf.data))] [] = some (.own 0, [(0, some (.arr 4 ((nodesE s a names refs).map Nd.data) true))])) :
    ∃ s, exec att RW LW c33_l0 (ndI t a names refs i) = some (.normal, s) ∧ norm [2, 3, 4, 10, 11, 12, 13] s = ndI t a names refs (i + 1) := by
  have hi' : (i : Int) < t.kids.length := by omega
  have hk := kidAt hi
  have hm := List.getElem_mem hi
  have hc1 := cntL_le t.kids i
  have hc2 := cntL_size t.kids
  have hc3 := T.size_eq t
  have hc4 := cnt_le t.kids[i]
  have hc5 := T.size_mem hm
  have hn := nextsL_take names refs t.kids a i _ hk
  have hd := nodesL_take names refs t.kids a i _ hk
  have hct := cntL_take t.kids i _ hk
  have hl1 := nextsL_len names refs (t.kids.take i) a
  rw [List.length_take] at hl1
  have hl2 := nodesL_len (t.kids.take i) a names refs fun s h => hs.kid s (List.mem_of_mem_take h)
  have hl3 := nodesE_len t.kids[i] (a + cntL (t.kids.take i)) names refs (hs.kid _ hm)
  have hu1 := h1 _ hm (a + cntL (t.kids.take i))
  have hc6 := cntL_size (t.kids.take i)
  have hc7 := T.sizeL_take t.kids i _ hk
  have hc8 := T.sizeL_le t.kids (i + 1)
  have hu2 := h2 _ hm (a + cntL (t.kids.take i)) (by omega) (by omega)
  have hu3 := cnt_run t.kids[i] (by omega) (hw.kid hm)
  rw [T.data_eq] at hu1 hu2 hu3
  generalize hrf : refE t.kids[i] (a + cntL (t.kids.take i)) names refs = rf at hu1 hn
  have hrd : rf.data = .agg [.int .i64 rf.node, .int .i64 rf.shift] := rfl
  rw [hrd] at hu1
  have hb1 : decide (((nextsL (t.kids.take i) a names refs).length + 1) * 16 ≤ 140737488355328) = true := by simp; omega
  have hb2 : decide (((nodesL (t.kids.take i) a names refs).length + (nodesE t.kids[i] (a + cntL (t.kids.take i)) names refs).length) * 64 ≤ 140737488355328) = true := by simp; omega
  have hz := sizes_nd (nodesE t.kids[i] (a + cntL (t.kids.take i)) names refs)
  have e1 : (nextsL (t.kids.take (i + 1)) a names refs).map Rf.data = (nextsL (t.kids.take i) a names refs).map Rf.data ++ [.agg [.int .i64 rf.node, .int .i64 rf.shift]] := by rw [hn, List.map_append]; rfl
  have e2 : (nodesL (t.kids.take (i + 1)) a names refs).map Nd.data = (nodesL (t.kids.take i) a names refs).map Nd.data ++ (nodesE t.kids[i] (a + cntL (t.kids.take i)) names refs).map Nd.data := by rw [hd, List.map_append]
  have e3 : a + ((cntL (t.kids.take (i + 1)) : Nat) : Int) = a + (cntL (t.kids.take i) : Int) + (cnt t.kids[i] : Int) := by omega
  refine ⟨?sx, ?g1, ?g2⟩
  case g1 =>
    unfold c33_l0 ndI
    simp only [go_sem, hi', hk, T.data_eq t.kids[i], hu1, hu2, hu3, hb1, hb2, hz]
    rfl
  case g2 =>
    rw [wrap64 (by omega) (by omega), wrap64 (by omega) (by omega)]
    unfold ndI
    rw [e1, e2, e3]
    show _ = _
    kernel_rfl

theorem lookR_shift (names : List (List UInt8)) (refs : List Rf) (x : List UInt8) (s b : Int) (a : Int) (hs : 0 ≤ s ∧ s ≤ 1000000) (hb : 0 ≤ b) (hr : ∀ r ∈ refs, 0 ≤ r.shift ∧ r.shift ≤ b) : ∀ m, m ≤ refs.length → 0 ≤ (lookR names refs x s ⟨a, 0⟩ m).shift ∧ (lookR names refs x s ⟨a, 0⟩ m).shift ≤ b + 1000000
  | 0, _ => by show 0 ≤ (0 : Int) ∧ (0 : Int) ≤ b + 1000000; omega
  | m + 1, hm => by
    rw [lookR_succ]
    by_cases h : names[m]? = some x
    · rw [if_pos h]
      have hk : refs[m]? = some (refs[m]'(by omega)) := List.getElem?_eq_getElem _
      have := hr (refs[m]'(by omega)) (List.getElem_mem _)
      rw [hk]
      show 0 ≤ (refs[m]'(by omega)).shift + s ∧ (refs[m]'(by omega)).shift + s ≤ b + 1000000
      omega
    · rw [if_neg h]
      exact lookR_shift names refs x s b a hs hb hr m (by omega)
theorem refE_shift (t : T) : ∀ (a b : Int) (names : List (List UInt8)) (refs : List Rf), Shp t → refs.length = names.length → 0 ≤ b → (∀ r ∈ refs, 0 ≤ r.shift ∧ r.shift ≤ b) → 0 ≤ (refE t a names refs).shift ∧ (refE t a names refs).shift ≤ b + 1000000 := by
  induction t using T.ind with
  | h t ih =>
  intro a b names refs hs hl hb hr
  rw [refE_eq]
  by_cases h8 : t.kind = 8
  · obtain ⟨s, hks⟩ := hs.one h8
    have hm : s ∈ t.kids := by rw [hks]; exact List.mem_singleton.2 rfl
    rw [if_pos h8, hks, refE1]
    exact ih s hm a b names refs (hs.kid s hm) hl hb hr
  · rw [if_neg h8]
    by_cases h9 : t.kind = 9
    · rw [if_pos h9]
      exact lookR_shift names refs t.name t.shift b a (hs.var h9).2 hb hr _ (by omega)
    · rw [if_neg h9]
      show 0 ≤ (0 : Int) ∧ (0 : Int) ≤ b + 1000000
      omega

theorem nodes_run (t : T) : ∀ (a : Int) (names : List (List UInt8)) (refs : List Rf), Shp t → Wf t → names.length + t.size < 1000000000 → refs.length = names.length → 0 ≤ a → a + t.size ≤ 1000000000000 →
    (∀ r ∈ refs, 0 ≤ r.shift ∧ r.shift + 1000000 * t.size ≤ 100000000000000000) →
    RW 33 [.d t.data, .d (.int .i64 a), .d (.sl 1 (names.map .str)), .d (.sl 2 (refs.map Rf.data))] [] = some (.own 0, [(0, some (.arr 4 ((nodesE t a names refs).map Nd.data) true))]) := by
  induction t using T.ind with
  | h t ih =>
  intro a names refs hs hw hsz hr ha0 ha hsh
  have hsz' := T.size_eq t
  refine runW_fn rfl rfl ?_
  unfold runFn c33
  rw [nodesE_eq]
  have hrun : RW 32 [.d t.data, .d (.int .i64 a), .d (.sl 1 (names.map .str)), .d (.sl 2 (refs.map Rf.data))] [] = some (.d (refE t a names refs).data, []) :=
    ref_run t a names refs hs (by omega) hr fun r h => by have := hsh r h; omega
  have hrs := refE_shift t a (100000000000000000 - 1000000 * t.size) names refs hs hr (by omega) fun r h => by have := hsh r h; omega
  by_cases h8 : t.kind = 8
  · obtain ⟨s, hks⟩ := hs.one h8
    have hm : s ∈ t.kids := by rw [hks]; exact List.mem_singleton.2 rfl
    have hg : t.kids[0]? = some s := by rw [hks]; rfl
    have hss := T.size_mem hm
    have hu := ih s hm a (names ++ [t.name]) (refs ++ [refE t a names refs]) (hs.kid s hm) (hw.kid hm) (by rw [List.length_append, List.length_singleton]; omega) (by rw [List.length_append, List.length_append, List.length_singleton, List.length_singleton, hr]) ha0 (by omega) (fun r h => by
      rcases List.mem_append.1 h with h | h
      · have := hsh r h; omega
      · rw [List.mem_singleton.1 h]; omega)
    rw [if_pos h8, hks, nodes1]
    rw [T.data_eq, List.map_append, List.map_append] at hu
    simp only [List.map_cons, List.map_nil] at hu
    generalize hrf : refE t a names refs = rf at hu hrun
    have hrd : rf.data = .agg [.int .i64 rf.node, .int .i64 rf.shift] := rfl
    rw [hrd] at hu hrun
    rw [T.data_eq] at hrun
    have hb1 : decide (names.length * 16 ≤ 140737488355328) = true := by simp; omega
    have hb2 : decide ((names.length + 1) * 16 ≤ 140737488355328) = true := by simp; omega
    have hb3 : decide (refs.length * 16 ≤ 140737488355328) = true := by simp; omega
    have hb4 : decide ((refs.length + 1) * 16 ≤ 140737488355328) = true := by simp; omega
    have z1 := sizes_str names
    have z2 := sizes_rf refs
    simp only [go_sem, T.data_eq t, decide_eq_true h8, hg, T.data_eq s, hrun, hu, hb1, hb2, hb3, hb4, z1, z2]
    show _ = _
    kernel_rfl
  · rw [if_neg h8]
    by_cases h9 : t.kind = 9
    · rw [if_pos h9]
      simp only [go_sem, T.data_eq t, decide_eq_true h9, h8]
      show _ = _
      kernel_rfl
    · rw [if_neg h9]
      have hkl : t.kids.length ≤ T.sizeL t.kids := by
        have : ∀ l : List T, l.length ≤ T.sizeL l := by
          intro l
          induction l with
          | nil => simp
          | cons x l ih => rw [T.sizeL, List.length_cons]; have := T.size_eq x; omega
        exact this _
      have e0 : ndI t (a + 1) names refs 0 = ⟨[(2, .d (.sl 1 (names.map .str))), (3, .d (.sl 2 (refs.map Rf.data))), (4, .ptr 0 0), (10, .ptr 1 0), (11, .own 3), (12, .d (.int .i64 (a + 1))), (13, .d (.int .i64 0))],
          (ndI t (a + 1) names refs 0).ob, 4, 0, false⟩ := by
        unfold ndI
        simp only [List.take_zero, cntL]
        rw [show a + 1 + ((0 : Nat) : Int) = a + 1 by omega]
        rfl
      have hle := nextsL_len names refs t.kids (a + 1)
      have hle2 := nodesL_len t.kids (a + 1) names refs hs.kid
      have hcs := cntL_size t.kids
      have hb1 : decide ((1 + (nodesL t.kids (a + 1) names refs).length) * 64 ≤ 140737488355328) = true := by simp; omega
      have z1 := sizes_nd (nodesL t.kids (a + 1) names refs)
      simp only [go_sem, T.data_eq t, h8, h9]
      rw [wrap64 (by omega) (by omega)]
      refine obind_mk (a := ?e) (Eq.trans (Eq.trans (by kernel_rfl) (congrArg (LW [2, 3, 4, 10, 11, 12, 13] c33_l0) e0).symm) (loop_from0 (vf := vf) (att := att) (ext := ext) (keep := [2, 3, 4, 10, 11, 12, 13]) (c := c33_l0) (I := ndI t (a + 1) names refs) (n := t.kids.length) ?hs ?he ?hn)) ?rest
      case hs =>
        intro i hi
        exact nd_step t (a + 1) names refs i hi (by omega) hw (by omega) hs (by omega)
          (fun s hm a => ref_run s a names refs (hs.kid s hm) (by omega) hr fun r h => by have := hsh r h; omega)
          (fun s hm a ha0 ha => ih s hm a names refs (hs.kid s hm) (hw.kid hm) (by have := T.size_mem hm; omega) hr ha0 ha (fun r h => by have := hsh r h; have := T.size_mem hm; omega))
      case he =>
        unfold c33_l0 ndI
        simp only [go_sem, List.take_length]
        rfl
      case hn => intro h; cases h
      case rest =>
        simp only [go_sem, hb1, z1]
        show _ = _
        kernel_rfl
end Go.Proofs.YtijfioakpngdhaaDoor

namespace Go.Proofs.YtijfioakpngdhaaDoor
open Go.V
set_option maxRecDepth 100000
set_option linter.unusedSimpArgs false
set_option linter.unusedVariables false

@[go_sem] theorem x_backt (ro : Bool) (base sz sz' : Nat) (xs ys : List V.Data) (u u' : Bool) (sh : Objs) (rd : List Nat) : callBack ⟨false, true, ro⟩ base [] sh rd (.tup [.own 0, .own 1], [(0, some (.arr sz xs u)), (1, some (.arr sz' ys u'))]) =
    some ⟨.tup [.own base, .own (base + 1)], (base, some (.arr sz xs u)) :: (base + 1, some (.arr sz' ys u')) :: sh, rd⟩ := by
  unfold callBack
  cases ro <;> rfl

/-- types whose graph can be made -/
structure Fine (l : List T) : Prop where
  shp : ∀ t ∈ l, Shp t
  wf : ∀ t ∈ l, Wf t
  size : T.sizeL l + l.length ≤ 1000000

def bdI (l : List T) (i : Nat) : St := ⟨[(0, .d (.sl 6 (l.map T.data))), (4, .own 0), (5, .own 1), (6, .d (.int .i64 i))],
  [(0, some (.arr 4 ((nodesL (l.take i) 0 [] []).map Nd.data) true)), (1, some (.arr 2 ((nextsL (l.take i) 0 [] []).map Rf.data) true))], 2, 0, false⟩
theorem build_run (l : List T) (h : Fine l) : RW 13 [.d (.sl 6 (l.map T.data))] [] = some (.tup [.own 0, .own 1], [(0, some (.arr 4 ((nodesL l 0 [] []).map Nd.data) true)), (1, some (.arr 2 ((nextsL l 0 [] []).map Rf.data) true))]) := by
  have hsz := h.size
  refine runW_fn rfl rfl ?_
  unfold runFn c13
  simp only [go_sem]
  refine obind_mk (a := ?e) (Eq.trans (by kernel_rfl) (loop_from0 (vf := vf) (att := att) (ext := ext) (keep := [0, 4, 5, 6]) (c := c13_l0) (I := bdI l) (n := l.length) ?hs ?he ?hn)) ?rest
  case hs =>
    intro i hi
    have hi' : (i : Int) < l.length := by omega
    have hk : l[i]? = some l[i] := List.getElem?_eq_getElem hi
    have hm := List.getElem_mem hi
    have hc1 := cntL_le l i
    have hc2 := cntL_size l
    have hc7 := T.sizeL_take l i _ hk
    have hc8 := T.sizeL_le l (i + 1)
    have hn := nextsL_take [] [] l 0 i _ hk
    have hd := nodesL_take [] [] l 0 i _ hk
    have hl1 := nextsL_len [] [] (l.take i) 0
    rw [List.length_take] at hl1
    have hl2 := nodesL_len (l.take i) 0 [] [] fun s hs => h.shp s (List.mem_of_mem_take hs)
    have hl3 := nodesE_len l[i] (0 + cntL (l.take i)) [] [] (h.shp _ hm)
    have hc4 := cnt_le l[i]
    rw [Int.zero_add] at hn hd hl3
    have hu1 := ref_run l[i] (cntL (l.take i)) [] [] (h.shp _ hm) (by simp) rfl (fun r hr => by cases hr)
    have hu2 := nodes_run l[i] (cntL (l.take i)) [] [] (h.shp _ hm) (h.wf _ hm) (by simp; omega) rfl (by omega) (by omega) (fun r hr => by cases hr)
    rw [T.data_eq, List.map_nil, List.map_nil] at hu1 hu2
    generalize hrf : refE l[i] (cntL (l.take i)) [] [] = rf at hu1 hn
    have hrd : rf.data = .agg [.int .i64 rf.node, .int .i64 rf.shift] := rfl
    rw [hrd] at hu1
    have hb1 : decide (((nextsL (l.take i) 0 [] []).length + 1) * 16 ≤ 140737488355328) = true := by simp; omega
    have hb2 : decide (((nodesL (l.take i) 0 [] []).length + (nodesE l[i] (cntL (l.take i)) [] []).length) * 64 ≤ 140737488355328) = true := by simp; omega
    rw [hl2] at hb2
    have hz := sizes_nd (nodesE l[i] (cntL (l.take i)) [] [])
    have e1 : (nextsL (l.take (i + 1)) 0 [] []).map Rf.data = (nextsL (l.take i) 0 [] []).map Rf.data ++ [.agg [.int .i64 rf.node, .int .i64 rf.shift]] := by rw [hn, List.map_append]; rfl
    have e2 : (nodesL (l.take (i + 1)) 0 [] []).map Nd.data = (nodesL (l.take i) 0 [] []).map Nd.data ++ (nodesE l[i] (cntL (l.take i)) [] []).map Nd.data := by rw [hd, List.map_append]
    refine ⟨?sx, ?g1, ?g2⟩
    case g1 =>
      unfold c13_l0 bdI
      simp only [go_sem, hi', hk, T.data_eq l[i], hl2, hu1, hu2, hb1, hb2, hz]
      rfl
    case g2 =>
      rw [wrap64 (by omega) (by omega)]
      unfold bdI
      rw [e1, e2]
      show _ = _
      kernel_rfl
  case he =>
    unfold c13_l0 bdI
    simp only [go_sem, List.take_length]
    rfl
  case hn => intro h; cases h
  case rest =>
    simp only [go_sem]
    show _ = _
    kernel_rfl

/-! ### the graph, copied -/
def gi (l : List T) : List Nd := nodesL l 0 [] []
def gr (l : List T) : List Rf := nextsL l 0 [] []
def grI (N : List Nd) (R : List Rf) (i : Nat) : St := ⟨[(2, .ptr 0 0), (4, .own 2), (5, .own 3), (6, .ptr 4 0), (7, .own 6), (8, .d (.int .i64 i))],
  [(0, some (.box [.own 1])), (1, some (.arr 4 [] true)), (2, some (.arr 4 (N.map Nd.data) true)), (3, some (.arr 2 (R.map Rf.data) true)), (4, some (.box [.own 5])), (5, some (.arr 4 ((N.take i).map Nd.data) true)), (6, some (.arr 2 [] true))], 7, 0, false⟩
def grJ (N : List Nd) (R : List Rf) (i : Nat) (n : Nd) (j : Nat) : St := ⟨[(2, .ptr 0 0), (4, .own 2), (5, .own 3), (6, .ptr 4 0), (7, .own 6), (8, .d (.int .i64 i)), (9, .ptr 7 0), (10, .d (.int .i64 j))],
  [(0, some (.box [.own 1])), (1, some (.arr 4 [] true)), (2, some (.arr 4 (N.map Nd.data) true)), (3, some (.arr 2 (R.map Rf.data) true)), (4, some (.box [.own 5])), (5, some (.arr 4 ((N.take i).map Nd.data) true)), (6, some (.arr 2 [] true)),
   (7, some (.box [.d (.int .i64 n.kind), .d (.int .i64 n.prio), .own 8, .own 9])), (8, some (.arr 1 (n.labels.map .str) true)), (9, some (.arr 2 ((n.next.take j).map Rf.data) true))], 10, 0, false⟩
theorem gr_inner (N : List Nd) (R : List Rf) (i : Nat) (n : Nd) (hn : N[i]? = some n) (hl : n.next.length < 1000000000) (j : Nat) (hj : j < n.next.length) :
    ∃ s, exec att RW LW c12_l1 (grJ N R i n j) = some (.normal, s) ∧ norm [2, 4, 5, 6, 7, 8, 9, 10] s = grJ N R i n (j + 1) := by
  have hiN : i < N.length := (List.getElem?_eq_some_iff.1 hn).1
  have hj' : (j : Int) < n.next.length := by omega
  have hk : n.next[j]? = some n.next[j] := List.getElem?_eq_getElem hj
  have hnd : n.data = .agg [.int .i64 n.kind, .int .i64 n.prio, .sl 1 (n.labels.map .str), .sl 2 (n.next.map Rf.data)] := rfl
  generalize hrf : n.next[j] = rf at hk
  have hrd : rf.data = .agg [.int .i64 rf.node, .int .i64 rf.shift] := rfl
  have hb1 : decide ((j + 1) * 16 ≤ 140737488355328) = true := by simp; omega
  have hlt : (n.next.take j).length = j := by rw [List.length_take]; omega
  have e1 : (n.next.take (j + 1)).map Rf.data = (n.next.take j).map Rf.data ++ [.agg [.int .i64 rf.node, .int .i64 rf.shift]] := by
    rw [List.take_succ_eq_append_getElem hj, List.map_append, hrf]; rfl
  refine ⟨?sx, ?g1, ?g2⟩
  case g1 =>
    unfold c12_l1 grJ
    simp only [go_sem, hj', hn, hnd, hk, hrd, hiN, hlt, hb1]
    rfl
  case g2 =>
    rw [wrap64 (by omega) (by omega)]
    unfold grJ
    rw [e1]
    show _ = _
    kernel_rfl
theorem gr_outer (N : List Nd) (R : List Rf) (i : Nat) (hi : i < N.length) (hN : N.length < 1000000000) (hl : ∀ n ∈ N, n.labels.length < 1000000000 ∧ n.next.length < 1000000000) :
    ∃ s, exec att RW LW c12_l2 (grI N R i) = some (.normal, s) ∧ norm [2, 4, 5, 6, 7, 8] s = grI N R (i + 1) := by
  have hi' : (i : Int) < N.length := by omega
  have hn : N[i]? = some N[i] := List.getElem?_eq_getElem hi
  have hm := hl _ (List.getElem_mem hi)
  generalize hx : N[i] = n at hn hm
  have hnd : n.data = .agg [.int .i64 n.kind, .int .i64 n.prio, .sl 1 (n.labels.map .str), .sl 2 (n.next.map Rf.data)] := rfl
  have hb1 : decide (n.labels.length * 16 ≤ 140737488355328) = true := by simp; omega
  have hb2 : decide ((i + 1) * 64 ≤ 140737488355328) = true := by simp; omega
  have hlt : (N.take i).length = i := by rw [List.length_take]; omega
  have z1 := sizes_str n.labels
  have e1 : (N.take (i + 1)).map Nd.data = (N.take i).map Nd.data ++ [.agg [.int .i64 n.kind, .int .i64 n.prio, .sl 1 (n.labels.map .str), .sl 2 (n.next.map Rf.data)]] := by
    rw [List.take_succ_eq_append_getElem hi, List.map_append, hx]; rfl
  refine ⟨?sx, ?g1, ?g2⟩
  case g1 =>
    unfold c12_l2 grI
    simp only [go_sem, hi', hi, hn, hnd, hb1, z1]
    refine obind_mk (a := ?e2) (Eq.trans (by kernel_rfl) (loop_from0 (vf := vf) (att := att) (ext := ext) (keep := [2, 4, 5, 6, 7, 8, 9, 10]) (c := c12_l1) (I := grJ N R i n) (n := n.next.length) ?hs2 ?he2 ?hn2)) ?rest2
    case hs2 => exact fun j hj => gr_inner N R i n hn hm.2 j hj
    case he2 =>
      unfold c12_l1 grJ
      simp only [go_sem, hi, hn, hnd, List.take_length]
      rfl
    case hn2 => intro h; cases h
    case rest2 =>
      simp only [go_sem, hlt, hb2]
      rfl
  case g2 =>
    rw [wrap64 (by omega) (by omega)]
    unfold grI
    rw [e1]
    show _ = _
    kernel_rfl

def grK (N : List Nd) (R : List Rf) (i : Nat) : St := ⟨[(2, .ptr 0 0), (5, .own 2), (6, .ptr 3 0), (7, .own 5), (11, .d (.int .i64 i))],
  [(0, some (.box [.own 1])), (1, some (.arr 4 [] true)), (2, some (.arr 2 (R.map Rf.data) true)), (3, some (.box [.own 4])), (4, some (.arr 4 (N.map Nd.data) true)), (5, some (.arr 2 ((R.take i).map Rf.data) true))], 6, 0, false⟩
theorem gr_refs (N : List Nd) (R : List Rf) (i : Nat) (hi : i < R.length) (hR : R.length < 1000000000) : ∃ s, exec att RW LW c12_l0 (grK N R i) = some (.normal, s) ∧ norm [2, 5, 6, 7, 11] s = grK N R (i + 1) := by
  have hi' : (i : Int) < R.length := by omega
  have hn : R[i]? = some R[i] := List.getElem?_eq_getElem hi
  generalize hx : R[i] = rf at hn
  have hrd : rf.data = .agg [.int .i64 rf.node, .int .i64 rf.shift] := rfl
  have hb1 : decide ((i + 1) * 16 ≤ 140737488355328) = true := by simp; omega
  have hlt : (R.take i).length = i := by rw [List.length_take]; omega
  have e1 : (R.take (i + 1)).map Rf.data = (R.take i).map Rf.data ++ [.agg [.int .i64 rf.node, .int .i64 rf.shift]] := by
    rw [List.take_succ_eq_append_getElem hi, List.map_append, hx]; rfl
  refine ⟨?sx, ?g1, ?g2⟩
  case g1 =>
    unfold c12_l0 grK
    simp only [go_sem, hi', hi, hn, hrd, hlt, hb1]
    rfl
  case g2 =>
    rw [wrap64 (by omega) (by omega)]
    unfold grK
    rw [e1]
    show _ = _
    kernel_rfl

theorem shape_lab {t : T} (h : shapeB t = true) (h7 : t.kind ≤ 7) : t.labels.length ≤ t.kids.length := by
  have hk := shape_kinds h
  unfold shapeB at h
  by_cases h1 : t.kind = 1
  · simp [h1] at h; simp [h.2.2.2.1]
  by_cases h2 : t.kind = 2
  · simp [h2] at h; simp [h.2.2.2.1]
  by_cases h3 : t.kind = 3
  · simp [h3] at h; simp [h.2.2.2.1]
  by_cases h4 : t.kind = 4
  · simp [h4] at h; simp [h.2.2.2.1]
  by_cases h5 : t.kind = 5
  · simp [h5] at h; simp [h.2.2.2.1]
  by_cases h6 : t.kind = 6
  · simp [h6] at h; omega
  by_cases h8 : t.kind = 7
  · simp [h8] at h; omega
  omega
theorem len_sizeL (l : List T) : l.length ≤ T.sizeL l := by
  induction l with
  | nil => simp
  | cons x l ih => rw [T.sizeL, List.length_cons]; have := T.size_eq x; omega
theorem nodesE_bound (t : T) : ∀ (a : Int) (names : List (List UInt8)) (refs : List Rf), Shp t → ∀ n ∈ nodesE t a names refs, n.labels.length ≤ t.size ∧ n.next.length ≤ t.size := by
  induction t using T.ind with
  | h t ih =>
  intro a names refs hs n hn
  have hsz := T.size_eq t
  have hll := len_sizeL t.kids
  have hL : ∀ (l : List T) (a : Int), (∀ s ∈ l, s ∈ t.kids) → ∀ n ∈ nodesL l a names refs, n.labels.length ≤ t.size ∧ n.next.length ≤ t.size := by
    intro l
    induction l with
    | nil => intro _ _ n hn; cases hn
    | cons x l ihl =>
      intro a hx n hn
      rw [nodesL] at hn
      rcases List.mem_append.1 hn with hn | hn
      · have hm := hx x List.mem_cons_self
        have := ih x hm _ _ _ (hs.kid x hm) n hn
        have := T.size_mem hm
        omega
      · exact ihl _ (fun s h => hx s (List.mem_cons_of_mem _ h)) n hn
  have hk := shape_kinds hs.sh
  rw [nodesE_eq] at hn
  by_cases h8 : t.kind = 8
  · obtain ⟨s, hks⟩ := hs.one h8
    have hm : s ∈ t.kids := by rw [hks]; exact List.mem_singleton.2 rfl
    rw [if_pos h8, hks, nodes1] at hn
    have := ih s hm _ _ _ (hs.kid s hm) n hn
    have := T.size_mem hm
    omega
  · rw [if_neg h8] at hn
    by_cases h9 : t.kind = 9
    · rw [if_pos h9] at hn; cases hn
    · rw [if_neg h9] at hn
      rcases List.mem_cons.1 hn with hn | hn
      · have := shape_lab hs.sh (by omega)
        have hl := nextsL_len names refs t.kids (a + 1)
        subst hn
        show t.labels.length ≤ _ ∧ (nextsL t.kids (a + 1) names refs).length ≤ _
        omega
      · exact hL _ _ (fun s h => h) n hn
theorem nodesL_bound (l : List T) (a : Int) (h : ∀ t ∈ l, Shp t) : ∀ n ∈ nodesL l a [] [], n.labels.length ≤ T.sizeL l ∧ n.next.length ≤ T.sizeL l := by
  induction l generalizing a with
  | nil => intro n hn; cases hn
  | cons x l ihl =>
    intro n hn
    rw [nodesL] at hn
    rw [T.sizeL]
    rcases List.mem_append.1 hn with hn | hn
    · have := nodesE_bound x _ _ _ (h x List.mem_cons_self) n hn; omega
    · have := ihl _ (fun s hs => h s (List.mem_cons_of_mem _ hs)) n hn; omega

theorem graph_run (l : List T) (h : Fine l) : RW 12 [.d (.sl 6 (l.map T.data))] [] = some (.tup [.agg [.own 0], .own 1], [(0, some (.arr 4 ((nodesL l 0 [] []).map Nd.data) true)), (1, some (.arr 2 ((nextsL l 0 [] []).map Rf.data) true))]) := by
  have hsz := h.size
  have hc := cntL_size l
  have hl1 := nextsL_len [] [] l 0
  have hl2 := nodesL_len l 0 [] [] h.shp
  have hg := nodesL_bound l 0 h.shp
  have hb := build_run l h
  generalize nodesL l 0 [] [] = N at *
  generalize nextsL l 0 [] [] = R at *
  refine runW_fn rfl rfl ?_
  unfold runFn c12
  simp only [go_sem, hb]
  refine obind_mk (a := ?e) (Eq.trans (by kernel_rfl) (loop_from0 (vf := vf) (att := att) (ext := ext) (keep := [2, 4, 5, 6, 7, 8]) (c := c12_l2) (I := grI N R) (n := N.length) ?hs ?he ?hn)) ?rest
  case hs => exact fun i hi => gr_outer N R i hi (by omega) fun n hn => by have := hg n hn; omega
  case he =>
    unfold c12_l2 grI
    simp only [go_sem, List.take_length]
    rfl
  case hn => intro h; cases h
  case rest =>
    simp only [go_sem]
    refine obind_mk (a := ?e3) (Eq.trans (by kernel_rfl) (loop_from0 (vf := vf) (att := att) (ext := ext) (keep := [2, 5, 6, 7, 11]) (c := c12_l0) (I := grK N R) (n := R.length) ?hs3 ?he3 ?hn3)) ?rest3
    case hs3 => exact fun i hi => gr_refs N R i hi (by omega)
    case he3 =>
      unfold c12_l0 grK
      simp only [go_sem, List.take_length]
      rfl
    case hn3 => intro h; cases h
    case rest3 =>
      simp only [go_sem]
      show _ = _
      kernel_rfl
end Go.Proofs.YtijfioakpngdhaaDoor

namespace Go.Proofs.YtijfioakpngdhaaDoor
open Go.V
set_option maxRecDepth 100000
set_option linter.unusedSimpArgs false
set_option linter.unusedVariables false

def reachG (ob : Objs) (n o : Nat) (todo seen : List Nat) : Option AObj → List Nat
  | none => reach ob n todo seen
  | some x => reach ob n (x.names ++ todo) (seen ++ [o])
@[go_sem] theorem z_reach (ob : Objs) (n o : Nat) (todo seen : List Nat) : reach ob (n + 1) (o :: todo) seen = bcond (mem o seen) (fun _ => reach ob n todo seen) (fun _ => reachG ob n o todo seen (oget ob o)) := by
  rw [reach]
  cases mem o seen with
  | true => rfl
  | false => cases oget ob o <;> rfl
@[go_sem] theorem z_reach0 (ob : Objs) (n : Nat) (seen : List Nat) : reach ob n [] seen = seen := by cases n <;> rfl
@[go_sem] theorem z_reachn (ob : Objs) (n o : Nat) (todo seen : List Nat) : reachG ob n o todo seen none = reach ob n todo seen := rfl
@[go_sem] theorem z_reachs (ob : Objs) (n o : Nat) (todo seen : List Nat) (x : AObj) : reachG ob n o todo seen (some x) = reach ob n (x.names ++ todo) (seen ++ [o]) := rfl
@[go_sem] theorem z_nmb (cs : List AV) : (AObj.box cs).names = namesL cs := rfl
@[go_sem] theorem z_nma (s : Nat) (xs : List V.Data) (u : Bool) : (AObj.arr s xs u).names = [] := rfl
@[go_sem] theorem z_nmp (o f : Nat) (l : List AV) : namesL (.ptr o f :: l) = o :: namesL l := rfl
@[go_sem] theorem z_vp (ob : Objs) (o f : Nat) : (AV.ptr o f).view ob = .ptr o f := rfl
@[go_sem] theorem z_shp (o f : Nat) (l : List AV) : sharedL (.ptr o f :: l) = sharedL l := rfl
@[go_sem] theorem z_renp (ρ : Nat → Option Nat) (o f : Nat) (l : List AV) : renL ρ (.ptr o f :: l) = orAny (ρ o) (.ptr · f) :: renL ρ l := rfl
@[go_sem] theorem z_orAny (o : Nat) (f : Nat → AV) : orAny (some o) f = f o := rfl
@[go_sem] theorem z_idx (o x : Nat) (l : List Nat) : idxOf o (x :: l) = bcond (Nat.beq x o) (fun _ => some 0) (fun _ => (idxOf o l).map (· + 1)) := by
  rw [idxOf]; cases Nat.beq x o <;> rfl
@[go_sem] theorem z_sub (ob : Objs) (ρ : Nat → Option Nat) (i o : Nat) (l : List Nat) : subObjs ob ρ i (o :: l) = (i, (oget ob o).map (AObj.ren ρ)) :: subObjs ob ρ (i + 1) l := rfl
@[go_sem] theorem z_renb (ρ : Nat → Option Nat) (cs : List AV) : AObj.ren ρ (.box cs) = .box (renL ρ cs) := rfl
@[go_sem] theorem z_nobs (ob : Objs) (o : Nat) (l : List Nat) : namesObs ob (o :: l) = (match oget ob o with | some x => x.names | none => []) ++ namesObs ob l := rfl

@[go_sem low] theorem z_cb (b k ro : Bool) (base : Nat) (names : List Nat) (sh : Objs) (rd : List Nat) (v : AV) (o' : Objs) : callBack ⟨b, k, ro⟩ base names sh rd (v, o') =
    need (fitsW names.length o' && (k || (v.flat && flatObs o'))) (some ⟨v.ren (backOf names base), localsUpd names.length base (backOf names base) o' ++ bcond ro (fun _ => []) (fun _ => importsUpd (backOf names base) o' 0 names) ++ bcond k (fun _ => sh) (fun _ => []), names ++ rd⟩) := nr rfl
@[go_sem] theorem z_fit0 (m : Nat) : fitsW m [] = true := rfl
@[go_sem] theorem z_fit1 (m j : Nat) (x : Option AObj) (l : Objs) : fitsW m ((j, x) :: l) = (Nat.blt j (m + 8) && fitsW m l) := rfl
@[go_sem] theorem z_rd (ρ : Nat → Option Nat) (x : V.Data) : (AV.d x).ren ρ = .d x := rfl
@[go_sem] theorem z_ro (ρ : Nat → Option Nat) (o : Nat) : (AV.own o).ren ρ = orAny (ρ o) .own := rfl
@[go_sem] theorem z_ra (ρ : Nat → Option Nat) (cs : List AV) : (AV.agg cs).ren ρ = .agg (renL ρ cs) := rfl
@[go_sem] theorem z_rlo (ρ : Nat → Option Nat) (o : Nat) (l : List AV) : renL ρ (.own o :: l) = orAny (ρ o) .own :: renL ρ l := rfl
@[go_sem] theorem z_lu0 (m base : Nat) (back : Nat → Option Nat) : localsUpd m base back [] = [] := rfl
@[go_sem] theorem z_lu1 (m base j : Nat) (back : Nat → Option Nat) (x : Option AObj) (l : Objs) : localsUpd m base back ((j, x) :: l) = bcond (Nat.ble m j) (fun _ => (base + (j - m), x.map (AObj.ren back)) :: localsUpd m base back l) (fun _ => localsUpd m base back l) := by
  rw [localsUpd]; cases Nat.ble m j <;> rfl
@[go_sem] theorem z_iu0 (back : Nat → Option Nat) (o' : Objs) (j : Nat) : importsUpd back o' j [] = [] := rfl
@[go_sem] theorem z_iu1 (back : Nat → Option Nat) (o' : Objs) (j o : Nat) (l : List Nat) : importsUpd back o' j (o :: l) = (o, (oget o' j).map (AObj.ren back)) :: importsUpd back o' (j + 1) l := rfl
@[go_sem] theorem z_rna (ρ : Nat → Option Nat) (s : Nat) (xs : List V.Data) (u : Bool) : AObj.ren ρ (.arr s xs u) = .arr s xs u := rfl
@[go_sem] theorem z_back (names : List Nat) (base j : Nat) : backOf names base j = bcond (Nat.ble names.length j) (fun _ => bcond (Nat.blt (j - names.length) 8) (fun _ => some (base + (j - names.length))) (fun _ => none)) (fun _ => names[j]?) := by
  unfold backOf
  rw [show callW = 8 from rfl]
  cases Nat.ble names.length j <;> cases Nat.blt (j - names.length) 8 <;> rfl
@[go_sem] theorem z_vc (ob : Objs) (f : Nat) (cs : List AV) : (AV.clos f cs).view ob = .clos f cs := rfl
@[go_sem] theorem z_shc (f : Nat) (cs l : List AV) : sharedL (.clos f cs :: l) = sharedL l := rfl
@[go_sem] theorem z_nmc (f : Nat) (cs l : List AV) : namesL (.clos f cs :: l) = namesL cs ++ namesL l := rfl
@[go_sem] theorem z_renc (ρ : Nat → Option Nat) (f : Nat) (cs l : List AV) : renL ρ (.clos f cs :: l) = .clos f (renL ρ cs) :: renL ρ l := rfl
theorem rest_run (k i : Int) : RW 42 [.d (.int .i64 k), .d (.int .i64 i)] [] = some (.d (.bool (decide (0 < i) || (decide (k = 6) || decide (k = 7)))), []) := by
  refine runW_fn rfl rfl ?_
  unfold runFn c42
  cases h1 : decide (0 < i) <;> cases h2 : decide (k = 6) <;> cases h3 : decide (k = 7) <;> simp only [go_sem, h1, h2, h3]

/-- what the closed graph's second half does with a reference -/
def upR (k : Int) (n i : Int) (r : Rf) : Rf := if 0 < i ∨ k = 6 ∨ k = 7 then ⟨r.node + n, r.shift⟩ else r
def impO (k p : Int) (ls nx : V.Data) (n : Int) : Objs := [(0, some (.box [.d (.int .i64 k), .d (.int .i64 p), .d ls, .d nx])), (1, some (.box [.d (.int .i64 n)]))]
theorem c41_run (k p : Int) (ls nx : V.Data) (n i : Int) (r : Rf) (hr : -1000000000000 ≤ r.node ∧ r.node ≤ 1000000000000) (hn : 0 ≤ n ∧ n ≤ 1000000000000) :
    RW 41 [.d (.int .i64 i), .d r.data, .ptr 0 0, .ptr 1 0] (impO k p ls nx n) = some (.d (upR k n i r).data, impO k p ls nx n) := by
  have h1 := rest_run k i
  have hrd : r.data = .agg [.int .i64 r.node, .int .i64 r.shift] := rfl
  refine runW_fn rfl rfl ?_
  unfold runFn c41 impO upR
  by_cases h : 0 < i ∨ k = 6 ∨ k = 7
  · have hb : (decide (0 < i) || (decide (k = 6) || decide (k = 7))) = true := by simpa using h
    rw [if_pos h, hrd]
    rw [hb] at h1
    simp only [go_sem, h1]
    rw [wrap64 (by omega) (by omega)]
    show _ = _
    kernel_rfl
  · have hb : (decide (0 < i) || (decide (k = 6) || decide (k = 7))) = false := by simpa using h
    rw [if_neg h, hrd]
    rw [hb] at h1
    simp only [go_sem, h1]
    show _ = _
    kernel_rfl

def upI (k p : Int) (ls nx : V.Data) (n : Int) (l : List Rf) (i : Nat) : St := ⟨[(1, .clos 41 [.ptr 0 0, .ptr 1 0]), (5, .own 2), (8, .d (.sl 2 (l.map Rf.data))), (9, .d (.int .i64 l.length)), (10, .d (.int .i64 i))],
  impO k p ls nx n ++ [(2, some (.arr 2 (((l.take i).mapIdx fun j r => (upR k n j r).data)) true))], 3, 2, false⟩
theorem up_step (k p : Int) (ls nx : V.Data) (n : Int) (l : List Rf) (hl : l.length < 1000000000) (hr : ∀ r ∈ l, -1000000000000 ≤ r.node ∧ r.node ≤ 1000000000000) (hn : 0 ≤ n ∧ n ≤ 1000000000000) (i : Nat) (hi : i < l.length) :
    ∃ s, exec att RW LW c40_l0 (upI k p ls nx n l i) = some (.normal, s) ∧ norm [1, 5, 8, 9, 10] s = upI k p ls nx n l (i + 1) := by
  have hi' : (i : Int) < l.length := by omega
  have hk : l[i]? = some l[i] := List.getElem?_eq_getElem hi
  have hu := c41_run k p ls nx n i l[i] (hr _ (List.getElem_mem hi)) hn
  have e1 : (l.take (i + 1)).mapIdx (fun j r => (upR k n j r).data) = (l.take i).mapIdx (fun j r => (upR k n j r).data) ++ [(upR k n i l[i]).data] := by
    rw [List.take_succ_eq_append_getElem hi, List.mapIdx_append]
    congr 1
    simp [List.length_take, Nat.min_eq_left (Nat.le_of_lt hi)]
  have hlt : ((l.take i).mapIdx (fun j r => (upR k n j r).data)).length = i := by rw [List.length_mapIdx, List.length_take]; omega
  generalize hx : l[i] = rf at hk hu e1
  have hrd : rf.data = .agg [.int .i64 rf.node, .int .i64 rf.shift] := rfl
  generalize hy : upR k n i rf = rg at hu e1
  have hrg : rg.data = .agg [.int .i64 rg.node, .int .i64 rg.shift] := rfl
  rw [hrg] at e1
  rw [hrd, hrg] at hu
  unfold impO at hu
  have hb1 : decide ((i + 1) * 16 ≤ 140737488355328) = true := by simp; omega
  refine ⟨?sx, ?g1, ?g2⟩
  case g1 =>
    unfold c40_l0 upI impO
    simp only [go_sem, hi', hk, hrd, hu, hlt, hb1]
    rfl
  case g2 =>
    rw [wrap64 (by omega) (by omega)]
    unfold upI impO
    rw [e1]
    show _ = _
    kernel_rfl

def upL (k : Int) (n : Int) (l : List Rf) : List Rf := l.mapIdx fun j r => upR k n j r
theorem c40_run (k p : Int) (ls nx : V.Data) (n : Int) (l : List Rf) (hl : l.length < 1000000000) (hr : ∀ r ∈ l, -1000000000000 ≤ r.node ∧ r.node ≤ 1000000000000) (hn : 0 ≤ n ∧ n ≤ 1000000000000) :
    RW 40 [.d (.sl 2 (l.map Rf.data)), .clos 41 [.ptr 0 0, .ptr 1 0]] (impO k p ls nx n) = some (.own 2, impO k p ls nx n ++ [(2, some (.arr 2 ((upL k n l).map Rf.data) true))]) := by
  have e : (upL k n l).map Rf.data = (l.take l.length).mapIdx fun j r => (upR k n j r).data := by
    unfold upL
    rw [List.take_length]
    apply List.ext_getElem?
    intro j
    simp [Option.map_map, Function.comp_def]
  rw [e]
  refine runW_fn rfl rfl ?_
  unfold runFn c40 impO
  simp only [go_sem]
  refine obind_mk (a := ?e) (Eq.trans (by kernel_rfl) (loop_from0 (vf := vf) (att := att) (ext := ext) (keep := [1, 5, 8, 9, 10]) (c := c40_l0) (I := upI k p ls nx n l) (n := l.length) ?hs ?he ?hn)) ?rest
  case hs => exact fun i hi => up_step k p ls nx n l hl hr hn i hi
  case he =>
    unfold c40_l0 upI impO
    simp only [go_sem]
    rfl
  case hn => intro h; cases h
  case rest =>
    simp only [go_sem]
    show _ = _
    kernel_rfl

/-- the dual node -/
def dualN (n : Int) (x : Nd) : Nd := ⟨kindD x.kind, x.prio, x.labels, upL x.kind n x.next⟩
theorem c39_run (n i : Int) (x : Nd) (hl : x.labels.length < 1000000000) (hl2 : x.next.length < 1000000000) (hr : ∀ r ∈ x.next, -1000000000000 ≤ r.node ∧ r.node ≤ 1000000000000) (hn : 0 ≤ n ∧ n ≤ 1000000000000) :
    RW 39 [.d (.int .i64 i), .d x.data, .ptr 0 0] [(0, some (.box [.d (.int .i64 n)]))] =
      some (.agg [.d (.int .i64 (kindD x.kind)), .d (.int .i64 x.prio), .own 1, .own 2], [(0, some (.box [.d (.int .i64 n)])), (1, some (.arr 1 (x.labels.map .str) true)), (2, some (.arr 2 ((upL x.kind n x.next).map Rf.data) true))]) := by
  have h1 := c40_run x.kind x.prio (.sl 1 (x.labels.map .str)) (.sl 2 (x.next.map Rf.data)) n x.next hl2 hr hn
  have h2 := kind_run x.kind
  have h3 := clone_run1 (x.labels.map .str) (sizes_str _) (by rw [List.length_map]; omega)
  have hx : x.data = .agg [.int .i64 x.kind, .int .i64 x.prio, .sl 1 (x.labels.map .str), .sl 2 (x.next.map Rf.data)] := rfl
  unfold impO at h1
  simp only [List.cons_append, List.nil_append] at h1
  refine runW_fn rfl rfl ?_
  unfold runFn c39
  rw [hx]
  simp only [go_sem, h1, h2, h3]
  show _ = _
  kernel_rfl

def duI (n : Int) (l : List Nd) (i : Nat) : St := ⟨[(1, .clos 39 [.ptr 0 0]), (5, .own 1), (8, .d (.sl 4 (l.map Nd.data))), (9, .d (.int .i64 l.length)), (10, .d (.int .i64 i))],
  [(0, some (.box [.d (.int .i64 n)])), (1, some (.arr 4 (((l.take i).map (dualN n)).map Nd.data) true))], 2, 1, false⟩
/-- nodes whose lists are short and whose references are near -/
structure NdOk (l : List Nd) : Prop where
  len : l.length < 1000000000
  lists : ∀ x ∈ l, x.labels.length < 1000000000 ∧ x.next.length < 1000000000
  refs : ∀ x ∈ l, ∀ r ∈ x.next, -1000000000000 ≤ r.node ∧ r.node ≤ 1000000000000
theorem du_step (n : Int) (l : List Nd) (h : NdOk l) (hn : 0 ≤ n ∧ n ≤ 1000000000000) (i : Nat) (hi : i < l.length) :
    ∃ s, exec att RW LW c35_l0 (duI n l i) = some (.normal, s) ∧ norm [1, 5, 8, 9, 10] s = duI n l (i + 1) := by
  have hlen := h.len
  have hi' : (i : Int) < l.length := by omega
  have hk : l[i]? = some l[i] := List.getElem?_eq_getElem hi
  have hm := List.getElem_mem hi
  have hu := c39_run n i l[i] (h.lists _ hm).1 (h.lists _ hm).2 (h.refs _ hm) hn
  have e1 : ((l.take (i + 1)).map (dualN n)).map Nd.data = ((l.take i).map (dualN n)).map Nd.data ++ [(dualN n l[i]).data] := by
    rw [List.take_succ_eq_append_getElem hi, List.map_append, List.map_append]; rfl
  generalize hx : l[i] = x at hk hu e1
  have hxd : x.data = .agg [.int .i64 x.kind, .int .i64 x.prio, .sl 1 (x.labels.map .str), .sl 2 (x.next.map Rf.data)] := rfl
  have hxe : (dualN n x).data = .agg [.int .i64 (kindD x.kind), .int .i64 x.prio, .sl 1 (x.labels.map .str), .sl 2 ((upL x.kind n x.next).map Rf.data)] := rfl
  rw [hxd] at hu
  rw [hxe] at e1
  have hlt : (l.take i).length = i := by rw [List.length_take]; omega
  have hb1 : decide ((i + 1) * 64 ≤ 140737488355328) = true := by simp; omega
  refine ⟨?sx, ?g1, ?g2⟩
  case g1 =>
    unfold c35_l0 duI
    simp only [go_sem, hi', hk, hxd, hu, hlt, hb1]
    rfl
  case g2 =>
    rw [wrap64 (by omega) (by omega)]
    unfold duI
    rw [e1]
    show _ = _
    kernel_rfl
theorem c35_dual (n : Int) (l : List Nd) (h : NdOk l) (hn : 0 ≤ n ∧ n ≤ 1000000000000) :
    RW 35 [.d (.sl 4 (l.map Nd.data)), .clos 39 [.ptr 0 0]] [(0, some (.box [.d (.int .i64 n)]))] = some (.own 1, [(0, some (.box [.d (.int .i64 n)])), (1, some (.arr 4 ((l.map (dualN n)).map Nd.data) true))]) := by
  refine runW_fn rfl rfl ?_
  unfold runFn c35
  simp only [go_sem]
  refine obind_mk (a := ?e) (Eq.trans (by kernel_rfl) (loop_from0 (vf := vf) (att := att) (ext := ext) (keep := [1, 5, 8, 9, 10]) (c := c35_l0) (I := duI n l) (n := l.length) ?hs ?he ?hn)) ?rest
  case hs => exact fun i hi => du_step n l h hn i hi
  case he =>
    unfold c35_l0 duI
    simp only [go_sem, List.take_length]
    rfl
  case hn => intro h; cases h
  case rest =>
    simp only [go_sem]
    show _ = _
    kernel_rfl

theorem c36_run (i : Int) (x : Nd) (hl : x.labels.length < 1000000000) (hl2 : x.next.length < 1000000000) :
    RW 36 [.d (.int .i64 i), .d x.data] [] = some (.agg [.d (.int .i64 x.kind), .d (.int .i64 x.prio), .own 0, .own 1], [(0, some (.arr 1 (x.labels.map .str) true)), (1, some (.arr 2 (x.next.map Rf.data) true))]) := by
  have h3 := clone_run1 (x.labels.map .str) (sizes_str _) (by rw [List.length_map]; omega)
  have h4 := clone_run2 (x.next.map Rf.data) (sizes_rf _) (by rw [List.length_map]; omega)
  have hx : x.data = .agg [.int .i64 x.kind, .int .i64 x.prio, .sl 1 (x.labels.map .str), .sl 2 (x.next.map Rf.data)] := rfl
  refine runW_fn rfl rfl ?_
  unfold runFn c36
  rw [hx]
  simp only [go_sem, h3, h4]
  show _ = _
  kernel_rfl
def smI (l : List Nd) (i : Nat) : St := ⟨[(1, .clos 36 []), (5, .own 0), (8, .d (.sl 4 (l.map Nd.data))), (9, .d (.int .i64 l.length)), (10, .d (.int .i64 i))],
  [(0, some (.arr 4 ((l.take i).map Nd.data) true))], 1, 0, false⟩
theorem sm_step (l : List Nd) (h : NdOk l) (i : Nat) (hi : i < l.length) : ∃ s, exec att RW LW c35_l0 (smI l i) = some (.normal, s) ∧ norm [1, 5, 8, 9, 10] s = smI l (i + 1) := by
  have hlen := h.len
  have hi' : (i : Int) < l.length := by omega
  have hk : l[i]? = some l[i] := List.getElem?_eq_getElem hi
  have hm := List.getElem_mem hi
  have hu := c36_run i l[i] (h.lists _ hm).1 (h.lists _ hm).2
  have e1 : (l.take (i + 1)).map Nd.data = (l.take i).map Nd.data ++ [l[i].data] := by
    rw [List.take_succ_eq_append_getElem hi, List.map_append]; rfl
  generalize hx : l[i] = x at hk hu e1
  have hxd : x.data = .agg [.int .i64 x.kind, .int .i64 x.prio, .sl 1 (x.labels.map .str), .sl 2 (x.next.map Rf.data)] := rfl
  rw [hxd] at hu e1
  have hlt : (l.take i).length = i := by rw [List.length_take]; omega
  have hb1 : decide ((i + 1) * 64 ≤ 140737488355328) = true := by simp; omega
  refine ⟨?sx, ?g1, ?g2⟩
  case g1 =>
    unfold c35_l0 smI
    simp only [go_sem, hi', hk, hxd, hu, hlt, hb1]
    rfl
  case g2 =>
    rw [wrap64 (by omega) (by omega)]
    unfold smI
    rw [e1]
    show _ = _
    kernel_rfl
theorem c35_same (l : List Nd) (h : NdOk l) : RW 35 [.d (.sl 4 (l.map Nd.data)), .clos 36 []] [] = some (.own 0, [(0, some (.arr 4 (l.map Nd.data) true))]) := by
  refine runW_fn rfl rfl ?_
  unfold runFn c35
  simp only [go_sem]
  refine obind_mk (a := ?e) (Eq.trans (by kernel_rfl) (loop_from0 (vf := vf) (att := att) (ext := ext) (keep := [1, 5, 8, 9, 10]) (c := c35_l0) (I := smI l) (n := l.length) ?hs ?he ?hn)) ?rest
  case hs => exact fun i hi => sm_step l h i hi
  case he =>
    unfold c35_l0 smI
    simp only [go_sem, List.take_length]
    rfl
  case hn => intro h; cases h
  case rest =>
    simp only [go_sem]
    show _ = _
    kernel_rfl

/-- the closed graph -/
def closeE (l : List Nd) : List Nd := l ++ l.map (dualN l.length)
theorem close_run (l : List Nd) (h : NdOk l) : RW 15 [.d (.agg [.sl 4 (l.map Nd.data)])] [] = some (.agg [.own 0], [(0, some (.arr 4 ((closeE l).map Nd.data) true))]) := by
  have hlen := h.len
  have h1 := c35_same l h
  have h2 := c35_dual l.length l h (by omega)
  have e : (closeE l).map Nd.data = l.map Nd.data ++ (l.map (dualN l.length)).map Nd.data := by unfold closeE; rw [List.map_append]
  have hb1 : decide ((l.length + l.length) * 64 ≤ 140737488355328) = true := by simp; omega
  have z1 := sizes_nd (l.map (dualN l.length))
  rw [e]
  refine runW_fn rfl rfl ?_
  unfold runFn c15
  simp only [go_sem, h1, h2, hb1, z1]
  show _ = _
  kernel_rfl
end Go.Proofs.YtijfioakpngdhaaDoor

namespace Go.Proofs.YtijfioakpngdhaaDoor
open Go.V
set_option maxRecDepth 100000
set_option linter.unusedSimpArgs false
set_option linter.unusedVariables false

theorem awake_run : RW 10 [] [] = some (.d (.bool true), []) := runW_mk (k := 40) (by kernel_rfl)

theorem nodeL_zero (names : List (List UInt8)) (all : Bool) : ∀ (l : List T) (i : Nat), nodeL names all l i = 0 → ∀ s ∈ l, ∃ b, nodeV s names names.length b = 0
  | [], _, _, s, hs => by cases hs
  | t :: l, i, h, s, hs => by
    rw [nodeL] at h
    by_cases hz : nodeV t names names.length (decide (0 < i) || all) = 0
    · rw [if_pos hz] at h
      rcases List.mem_cons.1 hs with e | hs
      · exact ⟨_, e ▸ hz⟩
      · exact nodeL_zero names all l (i + 1) h s hs
    · rw [if_neg hz] at h; exact absurd h hz
theorem findE_ne (names : List (List UInt8)) (x : List UInt8) : ∀ m, findE names x 0 m ≠ 0
  | 0 => by show (4 : Int) ≠ 0; decide
  | m + 1 => by
    rw [findE_succ]
    split
    · rw [if_neg (by omega)]; decide
    · exact findE_ne names x m
theorem node_zero (t : T) : ∀ (names : List (List UInt8)) (g : Int) (ses : Bool), Wf t → names.length + t.size < 1000000000 → nodeV t names g ses = 0 → Shp t ∧ (g = 0 → 1 ≤ cnt t) := by
  induction t using T.ind with
  | h t ih =>
  intro names g ses hw hs hz
  have hsz := T.size_eq t
  rw [(node_run t names g ses hw hs).2] at hz
  unfold nodeS at hz
  by_cases h1 : shapeB t = false ∨ ses = true ∧ (t.kind = 1 ∨ t.kind = 2)
  · rw [if_pos h1] at hz; cases hz
  · rw [if_neg h1] at hz
    have hsh : shapeB t = true := by cases hb : shapeB t; exact absurd (.inl hb) h1; rfl
    have hk := shape_kinds hsh
    by_cases h9 : t.kind = 9
    · rw [if_pos h9] at hz
      have hnil : t.kids = [] := by
        have := hsh
        unfold shapeB at this
        simp only [h9] at this
        simp at this
        exact List.eq_nil_of_length_eq_zero (by have := this.2.2.2.2; simpa using this)
      refine ⟨.mk t hsh (fun s hs => (by rw [hnil] at hs; cases hs)), fun hg => ?_⟩
      subst hg
      exact absurd hz (findE_ne _ _ _)
    · rw [if_neg h9] at hz
      by_cases h8 : t.kind = 8
      · rw [if_pos h8] at hz
        have hkl : ∃ s, t.kids = [s] := by
          have := hsh
          unfold shapeB at this
          simp only [h8] at this
          simp at this
          exact List.length_eq_one_iff.1 (by omega)
        obtain ⟨s, hks⟩ := hkl
        have hm : s ∈ t.kids := by rw [hks]; exact List.mem_singleton.2 rfl
        have hss := T.size_mem hm
        rw [hks] at hz
        have := ih s hm (names ++ [t.name]) g true (hw.kid hm) (by rw [List.length_append, List.length_singleton]; omega) hz
        refine ⟨.mk t hsh (fun s' hs' => (by rw [hks] at hs'; rw [List.mem_singleton.1 hs']; exact this.1)), fun hg => ?_⟩
        have h2 := this.2 hg
        rw [cnt_eq, hks, cntL, cntL]
        omega
      · rw [if_neg h8] at hz
        refine ⟨.mk t hsh fun s hs' => ?_, fun _ => ?_⟩
        · obtain ⟨b, hb⟩ := nodeL_zero _ _ _ _ hz s hs'
          exact (ih s hs' names _ b (hw.kid hs') (by have := T.size_mem hs'; omega) hb).1
        · rw [cnt_eq, if_pos (by omega)]; omega

theorem small_out {t : T} {m : Int} (hw : Wf t) (hm : m < 1000000) (h : smallB t m = true) : (t.size : Int) ≤ m ∧ Shp t ∧ 1 ≤ cnt t := by
  unfold smallB fewB at h
  simp only [Bool.and_eq_true, decide_eq_true_eq] at h
  obtain ⟨⟨h1, h2⟩, h3, h4⟩ := h
  unfold rightV at h3
  by_cases hb : 100 < dep t ∨ 10000 < t.size
  · rw [if_pos hb] at h3; cases h3
  · rw [if_neg hb] at h3
    have := node_zero t [] 0 false hw (by rw [List.length_nil]; omega) h3
    exact ⟨h1, this.1, this.2 rfl⟩
theorem few_fine {l : List T} {n m : Int} (hw : ∀ t ∈ l, Wf t) (hn : n ≤ 100) (hm : m < 1000) (h : Few l n m) : Fine l := by
  obtain ⟨h1, h2⟩ := h
  have hs : ∀ t ∈ l, (t.size : Int) ≤ m ∧ Shp t ∧ 1 ≤ cnt t := fun t ht => small_out (hw t ht) (by omega) (h2 t ht)
  refine ⟨fun t ht => (hs t ht).2.1, hw, ?_⟩
  have : ∀ k : List T, (∀ t ∈ k, (t.size : Int) ≤ m) → (T.sizeL k : Int) ≤ k.length * 1000 := by
    intro k
    induction k with
    | nil => intro _; simp [T.sizeL]
    | cons x k ih =>
      intro hx
      have a := hx x List.mem_cons_self
      have b := ih fun t ht => hx t (List.mem_cons_of_mem _ ht)
      rw [T.sizeL, List.length_cons]
      omega
  have := this l fun t ht => (hs t ht).1
  omega

/-! ### references are near -/
theorem lookR_node (names : List (List UInt8)) (refs : List Rf) (x : List UInt8) (s a b : Int) (ha : 0 ≤ a ∧ a ≤ b) (hr : ∀ r ∈ refs, 0 ≤ r.node ∧ r.node ≤ b) : ∀ m, m ≤ refs.length → 0 ≤ (lookR names refs x s ⟨a, 0⟩ m).node ∧ (lookR names refs x s ⟨a, 0⟩ m).node ≤ b
  | 0, _ => ha
  | m + 1, hm => by
    rw [lookR_succ]
    by_cases h : names[m]? = some x
    · rw [if_pos h]
      have hk : refs[m]? = some (refs[m]'(by omega)) := List.getElem?_eq_getElem _
      rw [hk]
      exact hr (refs[m]'(by omega)) (List.getElem_mem _)
    · rw [if_neg h]
      exact lookR_node names refs x s a b ha hr m (by omega)
theorem refE_node (t : T) : ∀ (a b : Int) (names : List (List UInt8)) (refs : List Rf), Shp t → refs.length = names.length → 0 ≤ a → a ≤ b → (∀ r ∈ refs, 0 ≤ r.node ∧ r.node ≤ b) → 0 ≤ (refE t a names refs).node ∧ (refE t a names refs).node ≤ b := by
  induction t using T.ind with
  | h t ih =>
  intro a b names refs hs hl h0 hb hr
  rw [refE_eq]
  by_cases h8 : t.kind = 8
  · obtain ⟨s, hks⟩ := hs.one h8
    have hm : s ∈ t.kids := by rw [hks]; exact List.mem_singleton.2 rfl
    rw [if_pos h8, hks, refE1]
    exact ih s hm a b names refs (hs.kid s hm) hl h0 hb hr
  · rw [if_neg h8]
    by_cases h9 : t.kind = 9
    · rw [if_pos h9]
      exact lookR_node names refs t.name t.shift a b ⟨h0, hb⟩ hr _ (by omega)
    · rw [if_neg h9]; exact ⟨h0, hb⟩
theorem nextsL_node (l : List T) : ∀ (a b : Int) (names : List (List UInt8)) (refs : List Rf), (∀ t ∈ l, Shp t) → refs.length = names.length → 0 ≤ a → a + cntL l ≤ b → (∀ r ∈ refs, 0 ≤ r.node ∧ r.node ≤ b) → ∀ r ∈ nextsL l a names refs, 0 ≤ r.node ∧ r.node ≤ b := by
  induction l with
  | nil => intro _ _ _ _ _ _ _ _ _ r hr; cases hr
  | cons t l ih =>
    intro a b names refs hs hl h0 hb hr r hm
    rw [cntL] at hb
    rcases List.mem_cons.1 hm with e | hm
    · subst e
      exact refE_node t a b names refs (hs t List.mem_cons_self) hl h0 (by omega) hr
    · exact ih (a + cnt t) b names refs (fun s h => hs s (List.mem_cons_of_mem _ h)) hl (by omega) (by omega) hr r hm
theorem nodesE_node (t : T) : ∀ (a b : Int) (names : List (List UInt8)) (refs : List Rf), Shp t → refs.length = names.length → 0 ≤ a → a + cnt t ≤ b → (∀ r ∈ refs, 0 ≤ r.node ∧ r.node ≤ b) → ∀ x ∈ nodesE t a names refs, ∀ r ∈ x.next, 0 ≤ r.node ∧ r.node ≤ b := by
  induction t using T.ind with
  | h t ih =>
  intro a b names refs hs hl h0 hb hr x hx
  have hk := shape_kinds hs.sh
  have hL : ∀ (l : List T) (a : Int), (∀ s ∈ l, s ∈ t.kids) → 0 ≤ a → a + cntL l ≤ b → ∀ x ∈ nodesL l a names refs, ∀ r ∈ x.next, 0 ≤ r.node ∧ r.node ≤ b := by
    intro l
    induction l with
    | nil => intro _ _ _ _ n hn; cases hn
    | cons y l ihl =>
      intro a hy h0 hb n hn
      rw [nodesL] at hn
      rw [cntL] at hb
      rcases List.mem_append.1 hn with hn | hn
      · exact ih y (hy y List.mem_cons_self) a b names refs (hs.kid y (hy y List.mem_cons_self)) hl h0 (by omega) hr n hn
      · exact ihl (a + cnt y) (fun s h => hy s (List.mem_cons_of_mem _ h)) (by omega) (by omega) n hn
  have hc := cnt_eq t
  rw [nodesE_eq] at hx
  by_cases h8 : t.kind = 8
  · obtain ⟨s, hks⟩ := hs.one h8
    have hm : s ∈ t.kids := by rw [hks]; exact List.mem_singleton.2 rfl
    rw [if_pos h8, hks, nodes1] at hx
    rw [hks, cntL, cntL] at hc
    have hrf := refE_node t a b names refs hs hl h0 (by omega) hr
    exact ih s hm a b _ _ (hs.kid s hm) (by rw [List.length_append, List.length_append, hl]; rfl) h0 (by omega) (fun r h => by
      rcases List.mem_append.1 h with h | h
      · exact hr r h
      · rw [List.mem_singleton.1 h]; exact hrf) x hx
  · rw [if_neg h8] at hx
    by_cases h9 : t.kind = 9
    · rw [if_pos h9] at hx; cases hx
    · rw [if_neg h9] at hx
      rw [if_pos (by omega)] at hc
      rcases List.mem_cons.1 hx with e | hx
      · subst e
        exact nextsL_node t.kids (a + 1) b names refs hs.kid hl (by omega) (by omega) hr
      · exact hL t.kids (a + 1) (fun s h => h) (by omega) (by omega) x hx
theorem nodesL_node (l : List T) : ∀ (a b : Int), (∀ t ∈ l, Shp t) → 0 ≤ a → a + cntL l ≤ b → ∀ x ∈ nodesL l a [] [], ∀ r ∈ x.next, 0 ≤ r.node ∧ r.node ≤ b := by
  induction l with
  | nil => intro _ _ _ _ _ x hx; cases hx
  | cons t l ih =>
    intro a b hs h0 hb x hx
    rw [nodesL] at hx
    rw [cntL] at hb
    rcases List.mem_append.1 hx with hx | hx
    · exact nodesE_node t a b [] [] (hs t List.mem_cons_self) rfl h0 (by omega) (fun r h => by cases h) x hx
    · exact ih (a + cnt t) b (fun s h => hs s (List.mem_cons_of_mem _ h)) (by omega) (by omega) x hx
theorem fine_nd {l : List T} (h : Fine l) : NdOk (nodesL l 0 [] []) := by
  have hc := cntL_size l
  have hs := h.size
  refine ⟨by rw [nodesL_len l 0 [] [] h.shp]; omega, fun x hx => ?_, fun x hx r hr => ?_⟩
  · have := nodesL_bound l 0 h.shp x hx; omega
  · have := nodesL_node l 0 (cntL l) h.shp (by omega) (by omega) x hx r hr; omega

/-- the reference to the dual -/
def ofE (n : Nat) (r : Rf) : Rf := if r.node < ((n / 2 : Nat) : Int) then ⟨r.node + ((n / 2 : Nat) : Int), r.shift⟩ else ⟨r.node - ((n / 2 : Nat) : Int), r.shift⟩
theorem of_run (l : List Nd) (r : Rf) (hl : l.length < 1000000000) (hr : -1000000000000 ≤ r.node ∧ r.node ≤ 1000000000000) : RW 19 [.d (.agg [.sl 4 (l.map Nd.data)]), .d r.data] [] = some (.d (ofE l.length r).data, []) := by
  have hrd : r.data = .agg [.int .i64 r.node, .int .i64 r.shift] := rfl
  have hdiv : (l.length : Int).tdiv 2 = ((l.length / 2 : Nat) : Int) := by rw [Int.tdiv_eq_ediv_of_nonneg (by omega)]; omega
  have h2 : decide ((2 : Int) = 0) = false := rfl
  refine runW_fn rfl rfl ?_
  unfold runFn c19 ofE
  rw [hrd]
  by_cases h : r.node < ((l.length / 2 : Nat) : Int)
  · rw [if_pos h]
    simp only [go_sem, h2]
    rw [hdiv, wrap64 (by omega) (by omega)]
    simp only [go_sem, decide_eq_true h]
    rw [wrap64 (by omega) (by omega)]
    show _ = _
    kernel_rfl
  · rw [if_neg h]
    simp only [go_sem, h2]
    rw [hdiv, wrap64 (by omega) (by omega)]
    simp only [go_sem, decide_eq_false h]
    rw [wrap64 (by omega) (by omega)]
    show _ = _
    kernel_rfl
end Go.Proofs.YtijfioakpngdhaaDoor

namespace Go.Proofs.YtijfioakpngdhaaDoor
open Go.V
set_option maxRecDepth 100000
set_option linter.unusedSimpArgs false
set_option linter.unusedVariables false

theorem kindD_inv (k : Int) : kindD (kindD k) = k := by
  unfold kindD
  split
  · rename_i h; rw [if_neg (by omega), if_pos rfl, h]
  · split
    · rename_i h; rw [if_pos rfl, h]
    · split
      · rename_i h; rw [if_neg (by omega), if_neg (by omega), if_neg (by omega), if_pos rfl, h]
      · split
        · rename_i h; rw [if_neg (by omega), if_neg (by omega), if_pos rfl, h]
        · rename_i h1 h2 h3 h4; simp only [h1, h2, h3, h4, if_false]
@[go_sem] theorem z_va (ob : Objs) (cs : List AV) : (AV.agg cs).view ob = mkAgg (viewL ob cs) := rfl
@[go_sem] theorem z_vl0 (ob : Objs) : viewL ob [] = [] := rfl
@[go_sem] theorem z_vl1 (ob : Objs) (c : AV) (l : List AV) : viewL ob (c :: l) = c.viewC ob :: viewL ob l := rfl
@[go_sem] theorem z_vco (ob : Objs) (o : Nat) : (AV.own o).viewC ob = (match (match oget ob o with | some (.arr sz xs _) => some (V.Data.sl sz xs) | _ => none) with | some x => .d x | none => .own o) := rfl
@[go_sem] theorem z_vcd (ob : Objs) (x : V.Data) : (AV.d x).viewC ob = .d x := rfl
@[go_sem] theorem z_nmag (cs l : List AV) : namesL (.agg cs :: l) = namesL cs ++ namesL l := rfl
@[go_sem] theorem z_rt (ρ : Nat → Option Nat) (cs : List AV) : (AV.tup cs).ren ρ = .tup (renL ρ cs) := rfl
@[go_sem] theorem z_rla (ρ : Nat → Option Nat) (cs l : List AV) : renL ρ (.agg cs :: l) = .agg (renL ρ cs) :: renL ρ l := rfl
@[go_sem] theorem z_eqa (a b : List V.Data) : eqData (.agg a) (.agg b) = eqCells a b := rfl
@[go_sem] theorem z_eq2 (k k' : IntKind) (a b c d : Int) : eqCells [.int .i64 a, .int .i64 b] [.int .i64 c, .int .i64 d] = some (decide (a = c) && (decide (b = d) && true)) := rfl
@[go_sem] theorem z_kt2 (a b : Int) : KT.ok (.many [0, 0]) (.agg [.int .i64 a, .int .i64 b]) = true := rfl

theorem wrap_small {x : Int} (h1 : -1000000 ≤ x) (h2 : x ≤ 1000000) : IntKind.wrap .i64 x = x := wrap64 (by omega) (by omega)
theorem closeE_len (N : List Nd) : (closeE N).length = N.length + N.length := by unfold closeE; rw [List.length_append, List.length_map]
theorem close_pair (N : List Nd) (q : Nat) (hq : q < N.length + N.length) (h1 : 1 ≤ N.length) (sh : Int) : ∃ (d : Nat) (x y : Nd), d < N.length + N.length ∧ d ≠ q ∧ ofE (closeE N).length ⟨(q : Int), sh⟩ = ⟨(d : Int), sh⟩ ∧ ofE (closeE N).length ⟨(d : Int), sh⟩ = ⟨(q : Int), sh⟩ ∧
    (closeE N)[d]? = some x ∧ (closeE N)[q]? = some y ∧ x.kind = kindD y.kind ∧ x.prio = y.prio := by
  have hdiv : (closeE N).length / 2 = N.length := by rw [closeE_len]; omega
  have lo : ∀ i, i < N.length → (closeE N)[i]? = N[i]? := fun i hi => by unfold closeE; rw [List.getElem?_append_left hi]
  have hi : ∀ i, i < N.length → (closeE N)[i + N.length]? = (N[i]?).map (dualN N.length) := fun i hi => by
    unfold closeE; rw [List.getElem?_append_right (by omega), List.getElem?_map]; congr 2; omega
  unfold ofE
  rw [hdiv]
  by_cases h : q < N.length
  · have hk : N[q]? = some N[q] := List.getElem?_eq_getElem h
    refine ⟨q + N.length, dualN N.length N[q], N[q], by omega, by omega, ?_, ?_, by rw [hi q h, hk]; rfl, by rw [lo q h, hk], rfl, rfl⟩
    · dsimp only; rw [if_pos (by omega)]; congr 1
    · dsimp only; rw [if_neg (by omega)]; congr 1; omega
  · obtain ⟨i, rfl⟩ : ∃ i, q = i + N.length := ⟨q - N.length, by omega⟩
    have hil : i < N.length := by omega
    have hk : N[i]? = some N[i] := List.getElem?_eq_getElem hil
    refine ⟨i, N[i], dualN N.length N[i], by omega, by omega, ?_, ?_, by rw [lo i hil, hk], by rw [hi i hil, hk]; rfl, (kindD_inv _).symm, rfl⟩
    · dsimp only; rw [if_neg (by omega)]; congr 1; omega
    · dsimp only; rw [if_pos (by omega)]; congr 1

theorem involution_run (l : List T) (k sh : Int) (hl : l.length < 1000000000000000) (hw : ∀ t ∈ l, Wf t) (hk : 0 ≤ k ∧ k < 256) (hsh : -32768 ≤ sh ∧ sh < 32768) :
    RW 4 [.d (.sl 6 (l.map T.data)), .d (.int .u8 k), .d (.int .i16 sh)] [] = some (.d (.bool true), []) := by
  have ha := awake_run
  obtain ⟨b, hf, hb⟩ := fews_run l 5 60 hl hw (by omega) (by omega)
  refine runW_fn rfl rfl ?_
  unfold runFn c4
  cases b with
  | false => simp only [go_sem, ha, hf]
  | true =>
    cases l with
    | nil =>
      simp only [List.map_nil] at hf ⊢
      simp only [go_sem, ha, hf]
    | cons t l =>
      have hfew := hb.1 rfl
      have hfine := few_fine hw (by omega) (by omega) hfew
      have hg := graph_run (t :: l) hfine
      have hok := fine_nd hfine
      have hlen := nodesL_len (t :: l) 0 [] [] hfine.shp
      have hcnt : 1 ≤ cntL (t :: l) := by
        have := (small_out (hw t List.mem_cons_self) (by omega) (hfew.2 t List.mem_cons_self)).2.2
        rw [cntL]; omega
      have hc2 := cntL_size (t :: l)
      have hsz := hfine.size
      generalize hll : t :: l = ll at *
      have hll0 : decide ((ll.length : Int) = 0) = false := by rw [← hll]; simp; omega
      generalize nodesL ll 0 [] [] = N at *
      have hcl := close_run N hok
      have hcN := closeE_len N
      obtain ⟨d, x, y, h1, h2, h3, h4, h5, h6, h7, h8⟩ := close_pair N (k.toNat % (closeE N).length) (by rw [hcN]; exact Nat.mod_lt _ (by omega)) (by omega) sh
      have hq : k.tmod ((closeE N).length : Int) = ((k.toNat % (closeE N).length : Nat) : Int) := by
        rw [Int.tmod_eq_emod_of_nonneg hk.1, Int.natCast_emod, Int.toNat_of_nonneg hk.1]
      generalize hqq : k.toNat % (closeE N).length = q at *
      have hql : q < (closeE N).length := by rw [← hqq, hcN]; exact Nat.mod_lt _ (by omega)
      have ho1 := of_run (closeE N) ⟨(q : Int), sh⟩ (by omega) (by dsimp only; omega)
      have ho2 := of_run (closeE N) ⟨(d : Int), sh⟩ (by omega) (by dsimp only; omega)
      rw [h3] at ho1
      rw [h4] at ho2
      generalize hC : closeE N = C at *
      have hxd : x.data = .agg [.int .i64 x.kind, .int .i64 x.prio, .sl 1 (x.labels.map .str), .sl 2 (x.next.map Rf.data)] := rfl
      have hyd : y.data = .agg [.int .i64 y.kind, .int .i64 y.prio, .sl 1 (y.labels.map .str), .sl 2 (y.next.map Rf.data)] := rfl
      have hkr := kind_run y.kind
      have hC0 : decide ((C.length : Int) = 0) = false := decide_eq_false (by omega)
      have hdl : d < C.length := by omega
      have hdl' : decide ((d : Int) < 0) = false := decide_eq_false (by omega)
      have hdl2 : decide ((C.length : Int) ≤ (d : Int)) = false := decide_eq_false (by omega)
      have hne : decide (d = q) = false := decide_eq_false h2
      have e1 : decide ((C.length : Int) = 2 * (N.length : Int)) = true := decide_eq_true (by omega)
      have hw1 : IntKind.wrap .i64 (2 * (N.length : Int)) = 2 * (N.length : Int) := wrap64 (by omega) (by omega)
      have hw2 : IntKind.wrap .i64 k = k := wrap64 (by omega) (by omega)
      have hw3 : IntKind.wrap .i64 sh = sh := wrap64 (by omega) (by omega)
      unfold Rf.data at ho1 ho2
      simp only [go_sem, ha, hf, hll0, hg, hcl, hw1, e1, hw2, hw3, hC0, hq, ho1, ho2, hdl', hdl2, hdl, hql, hne, h5, h6, h7, h8, hxd, hyd, hkr]
end Go.Proofs.YtijfioakpngdhaaDoor
