/- The walks: the reference's graph, its counts and references. -/
import Derived.Test.YtijfioakpngdhaaDoorME
namespace Go.Proofs.YtijfioakpngdhaaDoor
open Go.V
set_option maxRecDepth 100000
set_option linter.unusedSimpArgs false
set_option linter.unusedVariables false

@[go_sem] theorem x_fla (cs : List V.Data) : (V.Data.agg cs).flat = V.Data.flat.flatL cs := rfl
@[go_sem] theorem x_fl0 : V.Data.flat.flatL [] = true := rfl
@[go_sem] theorem x_flc (x : V.Data) (l : List V.Data) : V.Data.flat.flatL (x :: l) = (x.flat && V.Data.flat.flatL l) := rfl
attribute [go_sem] List.set_cons_zero List.set_cons_succ
/-- a reference, and a node, as data -/
structure Rf where
  node : Int
  shift : Int
  deriving Inhabited
def Rf.data (r : Rf) : V.Data := .agg [.int .i64 r.node, .int .i64 r.shift]
structure Nd where
  kind : Int
  prio : Int
  labels : List (List UInt8)
  next : List Rf
  deriving Inhabited
def Nd.data (n : Nd) : V.Data := .agg [.int .i64 n.kind, .int .i64 n.prio, .sl 1 (n.labels.map .str), .sl 2 (n.next.map Rf.data)]

/-- each node has the fields of its kind -/
inductive Shp : T → Prop
  | mk (t : T) (h : shapeB t = true) (k : ∀ s ∈ t.kids, Shp s) : Shp t
theorem Shp.sh {t : T} (h : Shp t) : shapeB t = true := by cases h; assumption
theorem Shp.kid {t : T} (h : Shp t) : ∀ s ∈ t.kids, Shp s := by cases h; assumption
theorem Shp.one {t : T} (h : Shp t) (h8 : t.kind = 8) : ∃ s, t.kids = [s] := by
  have := h.sh
  unfold shapeB at this
  simp only [h8] at this
  simp at this
  exact List.length_eq_one_iff.1 (by omega)
theorem Shp.var {t : T} (h : Shp t) (h9 : t.kind = 9) : t.kids = [] ∧ 0 ≤ t.shift ∧ t.shift ≤ 1000000 := by
  have := h.sh
  unfold shapeB prioB at this
  simp only [h9] at this
  simp at this
  exact ⟨List.eq_nil_of_length_eq_zero (by have := this.2.2.2.2; simpa using this), this.2.2.1⟩

mutual
def cnt : T → Nat
  | .mk k _ _ _ _ ks => (if k ≤ 7 then 1 else 0) + cntL ks
def cntL : List T → Nat
  | [] => 0
  | t :: l => cnt t + cntL l
end
theorem cnt_eq (t : T) : cnt t = (if t.kind ≤ 7 then 1 else 0) + cntL t.kids := by cases t; rw [cnt]; rfl
theorem cntL_take (l : List T) (i : Nat) (s : T) (h : l[i]? = some s) : cntL (l.take (i + 1)) = cntL (l.take i) + cnt s := by
  induction l generalizing i with
  | nil => cases h
  | cons t l ih =>
    cases i with
    | zero => injection h with h; subst h; simp [cntL]
    | succ i => simp only [List.take_succ_cons, cntL]; rw [ih i h]; omega
theorem cnt_le (t : T) : cnt t ≤ t.size := by
  induction t using T.ind with
  | h t ih =>
  rw [cnt_eq, T.size_eq]
  have : ∀ l : List T, (∀ s ∈ l, cnt s ≤ s.size) → cntL l ≤ T.sizeL l := by
    intro l
    induction l with
    | nil => intro _; simp [cntL]
    | cons x l ihl =>
      intro hx
      have h1 := hx x List.mem_cons_self
      have h2 := ihl fun s hs => hx s (List.mem_cons_of_mem _ hs)
      rw [cntL, T.sizeL]; omega
  have := this t.kids ih
  split <;> omega
theorem cntL_le (l : List T) (i : Nat) : cntL (l.take i) ≤ cntL l := by
  induction l generalizing i with
  | nil => simp [cntL]
  | cons t l ih =>
    cases i with
    | zero => simp [cntL]
    | succ i => simp only [List.take_succ_cons, cntL]; have := ih i; omega
theorem cntL_size (l : List T) : cntL l ≤ T.sizeL l := by
  induction l with
  | nil => simp [cntL]
  | cons t l ih => rw [cntL, T.sizeL]; have := cnt_le t; omega
def ctI (t : T) (i : Nat) : St := ⟨[(1, .ptr 0 0), (3, .d (.int .i64 ((if t.kind ≤ 7 then 1 else 0) + cntL (t.kids.take i) : Nat))), (4, .d (.int .i64 i))], bx t, 1, 0, false⟩
theorem cnt_run (t : T) : t.size < 1000000000 → Wf t → RW 56 [.d t.data] [] = some (.d (.int .i64 (cnt t)), []) := by
  induction t using T.ind with
  | h t ih =>
  intro hs hw
  have hlen := hw.len
  have hs' := T.size_eq t
  have hc' := cnt_eq t
  have hcl := cnt_le t
  obtain ⟨e, h2, hq⟩ := loop_p (keep := [1, 3, 4]) (c := c56_l0) (I := ctI t) (n := t.kids.length) (P := fun _ => True) (Q := QE (fun fr => fget fr 3 = .d (.int .i64 (cnt t))) 0 (fun _ => False)) (fun i hi _ => by
    have hi' : (i : Int) < t.kids.length := by omega
    have hk := kidAt hi
    have hsz := cntL_take t.kids i _ hk
    have hle := cntL_le t.kids (i + 1)
    have hss := T.size_mem (List.getElem_mem hi)
    have hih := ih t.kids[i] (List.getElem_mem hi) (by omega) (hw.kid (List.getElem_mem hi))
    rw [T.data_eq] at hih
    refine .inl ⟨?s, ?h1, ?h2, trivial⟩
    case h1 =>
      unfold c56_l0 ctI bx
      simp only [go_sem, hi', hk, T.data_eq t.kids[i], hih]
      rfl
    case h2 =>
      rw [wrap64 (by omega) (by omega), wrap64 (by omega) (by omega), show ((((if t.kind ≤ 7 then 1 else 0) + cntL (List.take i t.kids) : Nat) : Int) + (cnt t.kids[i] : Int)) = (((if t.kind ≤ 7 then 1 else 0) + cntL (List.take (i + 1) t.kids) : Nat) : Int) by omega]
      kernel_rfl) (fun _ => by
    refine ⟨?e, ?h1, ?h2, ?h3⟩
    case h1 =>
      unfold c56_l0 ctI bx
      simp only [go_sem, List.take_length, ← hc']
      rfl
    case h2 => intro h; cases h
    case h3 => exact ⟨.inl ⟨rfl, rfl⟩, rfl, rfl⟩) t.kids.length 0 (by omega) trivial
  rcases hq.out with ⟨fr, ob, nx, rfl, h4⟩ | ⟨fr, ob, nx, rfl, h4⟩
  · refine runW_fn rfl rfl ?_
    unfold runFn c56
    by_cases h7 : t.kind ≤ 7
    · have e0 : ctI t 0 = ⟨[(1, .ptr 0 0), (3, .d (.int .i64 1)), (4, .d (.int .i64 0))], bx t, 1, 0, false⟩ := by
        unfold ctI; rw [if_pos h7]; rfl
      rw [e0] at h2
      simp only [go_sem, T.data_eq t, decide_eq_true h7]
      refine obind_mk (Eq.trans (by kernel_rfl) h2) ?_
      simp only [go_sem, h4]
    · have e0 : ctI t 0 = ⟨[(1, .ptr 0 0), (3, .d (.int .i64 0)), (4, .d (.int .i64 0))], bx t, 1, 0, false⟩ := by
        unfold ctI; rw [if_neg h7]; rfl
      rw [e0] at h2
      simp only [go_sem, T.data_eq t, decide_eq_false h7]
      refine obind_mk (Eq.trans (by kernel_rfl) h2) ?_
      simp only [go_sem, h4]
  · exact h4.elim

/-- the last of some names, as a reference -/
def lookR (names : List (List UInt8)) (refs : List Rf) (x : List UInt8) (s : Int) (z : Rf) : Nat → Rf
  | 0 => z
  | m + 1 => if names[m]? = some x then ⟨(refs[m]?.getD default).node, (refs[m]?.getD default).shift + s⟩ else lookR names refs x s z m
theorem lookR_succ (names : List (List UInt8)) (refs : List Rf) (x : List UInt8) (s : Int) (z : Rf) (m : Nat) : lookR names refs x s z (m + 1) = if names[m]? = some x then ⟨(refs[m]?.getD default).node, (refs[m]?.getD default).shift + s⟩ else lookR names refs x s z m := rfl
mutual
def refE : T → Int → List (List UInt8) → List Rf → Rf
  | .mk k _ n s _ ks, a, names, refs => if k = 8 then refE1 ks a names refs else if k = 9 then lookR names refs n s ⟨a, 0⟩ names.length else ⟨a, 0⟩
def refE1 : List T → Int → List (List UInt8) → List Rf → Rf
  | [], a, _, _ => ⟨a, 0⟩
  | t :: _, a, names, refs => refE t a names refs
end
theorem refE_eq (t : T) (a : Int) (names : List (List UInt8)) (refs : List Rf) : refE t a names refs = if t.kind = 8 then refE1 t.kids a names refs else if t.kind = 9 then lookR names refs t.name t.shift ⟨a, 0⟩ names.length else ⟨a, 0⟩ := by
  cases t; rw [refE]; rfl

def ox (r : AV) : Objs := [(1, some (.box [r]))]
def rlI (t : T) (a : Int) (names : List (List UInt8)) (refs : List Rf) (j : Nat) : St := ⟨[(1, .d (.int .i64 a)), (2, .d (.sl 1 (names.map .str))), (3, .d (.sl 2 (refs.map Rf.data))), (4, .ptr 0 0), (8, .ptr 1 0), (9, .d (.int .i64 ((names.length : Int) - ((j + 1 : Nat) : Int))))],
  [(0, some (.box [.d (.int .i64 t.kind), .d (.int .i64 t.prio), .d (.str t.name), .d (.int .i64 t.shift), .d (.sl 1 (t.labels.map .str)), .d (.sl 6 (t.kids.map T.data))])), (1, some (.box [.d (.int .i64 0), .d (.int .i64 0)]))], 2, 0, false⟩
/-- the function's result cell -/
def RC (r : Rf) (e : St) : Prop := loadR true 2 e.ob (fget e.fr 8) = some ⟨.d r.data, [], [1]⟩
theorem ref_loop (t : T) (a : Int) (names : List (List UInt8)) (refs : List Rf) (hn : names.length < 1000000000) (hr : refs.length = names.length) (hsh : ∀ r ∈ refs, -1000000000000000000 ≤ r.shift + t.shift ∧ r.shift + t.shift ≤ 1000000000000000000) :
    ∃ e, LW [1, 2, 3, 4, 8, 9] c32_l0 (rlI t a names refs 0) = some e ∧ ((e.1 = .exit 0 ∧ lookR names refs t.name t.shift ⟨a, 0⟩ names.length = ⟨a, 0⟩ ∧ (∃ nx, ∃ fr, e.2 = ⟨fr, (rlI t a names refs 0).ob, nx, 0, false⟩ ∧ fget fr 8 = .ptr 1 0 ∧ fget fr 1 = .d (.int .i64 a))) ∨
      (e.1 = .ret ∧ RC (lookR names refs t.name t.shift ⟨a, 0⟩ names.length) e.2 ∧ e.2.m = 0 ∧ e.2.ro = false)) := by
  refine loop_p (keep := [1, 2, 3, 4, 8, 9]) (c := c32_l0) (I := rlI t a names refs) (n := names.length) (Q := fun e => (e.1 = .exit 0 ∧ lookR names refs t.name t.shift ⟨a, 0⟩ names.length = ⟨a, 0⟩ ∧ (∃ nx, ∃ fr, e.2 = ⟨fr, (rlI t a names refs 0).ob, nx, 0, false⟩ ∧ fget fr 8 = .ptr 1 0 ∧ fget fr 1 = .d (.int .i64 a))) ∨
      (e.1 = .ret ∧ RC (lookR names refs t.name t.shift ⟨a, 0⟩ names.length) e.2 ∧ e.2.m = 0 ∧ e.2.ro = false)) (P := fun j => lookR names refs t.name t.shift ⟨a, 0⟩ names.length = lookR names refs t.name t.shift ⟨a, 0⟩ (names.length - j)) (fun j hj hp => ?_) (fun hp => ?_) names.length 0 (by omega) rfl
  · have h0 : decide (0 ≤ (names.length : Int) - ((j + 1 : Nat) : Int)) = true := by simp; omega
    have ht : ((names.length : Int) - ((j + 1 : Nat) : Int)).toNat = names.length - 1 - j := by omega
    have hk : names[names.length - 1 - j]? = some (names[names.length - 1 - j]'(by omega)) := List.getElem?_eq_getElem _
    have hk2 : refs[names.length - 1 - j]? = some (refs[names.length - 1 - j]'(by omega)) := List.getElem?_eq_getElem _
    have hst : names.length - j = (names.length - 1 - j) + 1 := by omega
    rw [hst, lookR_succ] at hp
    have hs := hsh (refs[names.length - 1 - j]'(by omega)) (List.getElem_mem _)
    generalize hx : names[names.length - 1 - j]'(by omega) = x at hk
    generalize hy : refs[names.length - 1 - j]'(by omega) = y at hk2 hs
    rw [hk, hk2] at hp
    by_cases h : x = t.name
    · rw [if_pos (by rw [h])] at hp
      have h' := decide_eq_true h
      refine .inr ⟨?e1, ?h1, ?h2, ?h3⟩
      case h1 =>
        unfold c32_l0 rlI
        simp only [go_sem, h0, ht, hk, hk2, h', Rf.data]
        rfl
      case h2 => intro h; cases h
      case h3 =>
        refine Or.inr (And.intro rfl (And.intro ?_ (And.intro rfl rfl)))
        rw [hp, wrap64 (by omega) (by omega)]
        rfl
    · rw [if_neg (fun e => h (Option.some.inj e))] at hp
      refine .inl ⟨?sx, ?h1, ?h2, ?h3⟩
      case h1 =>
        unfold c32_l0 rlI
        simp only [go_sem, h0, ht, hk, h]
        rfl
      case h2 =>
        rw [wrap64 (by omega) (by omega), show ((names.length : Int) - ((j + 1 : Nat) : Int) - 1) = (names.length : Int) - ((j + 1 + 1 : Nat) : Int) by omega]
        kernel_rfl
      case h3 => rw [hp, show names.length - (j + 1) = names.length - 1 - j by omega]
  · have h0 : decide (0 ≤ (names.length : Int) - ((names.length + 1 : Nat) : Int)) = false := by simp; omega
    rw [Nat.sub_self] at hp
    refine ⟨?e, ?h1, ?h2, ?h3⟩
    case h1 =>
      unfold c32_l0 rlI
      simp only [go_sem, h0]
      rfl
    case h2 => intro h; cases h
    case h3 =>
      left
      refine ⟨rfl, hp, _, _, rfl, rfl, rfl⟩

theorem ref_run (t : T) : ∀ (a : Int) (names : List (List UInt8)) (refs : List Rf), Shp t → names.length < 1000000000 → refs.length = names.length → (∀ r ∈ refs, 0 ≤ r.shift ∧ r.shift ≤ 100000000000000000) →
    RW 32 [.d t.data, .d (.int .i64 a), .d (.sl 1 (names.map .str)), .d (.sl 2 (refs.map Rf.data))] [] = some (.d (refE t a names refs).data, []) := by
  induction t using T.ind with
  | h t ih =>
  intro a names refs hs hn hr hsh
  refine runW_fn rfl rfl ?_
  unfold runFn c32
  rw [refE_eq]
  by_cases h8 : t.kind = 8
  · obtain ⟨s, hk⟩ := hs.one h8
    have hm : s ∈ t.kids := by rw [hk]; exact List.mem_singleton.2 rfl
    have hg : t.kids[0]? = some s := by rw [hk]; rfl
    have hu := ih s hm a names refs (hs.kid s hm) hn hr hsh
    rw [if_pos h8, hk, refE1]
    rw [T.data_eq] at hu
    unfold Rf.data at hu
    unfold Rf.data
    simp only [go_sem, T.data_eq t, decide_eq_true h8, hg, T.data_eq s, hu]
  · rw [if_neg h8]
    by_cases h9 : t.kind = 9
    · rw [if_pos h9]
      have hv := hs.var h9
      obtain ⟨e, hl, hq⟩ := ref_loop t a names refs hn hr (fun r hr => by have := hsh r hr; omega)
      obtain ⟨o, st⟩ := e
      rcases hq with ⟨h1, h2, nx, fr, h3, h4, h5⟩ | ⟨h1, h2, h3, h4⟩
      · dsimp only at h1 h3
        subst h1; subst h3
        rw [h2]
        simp only [go_sem, T.data_eq t, h8, decide_eq_true h9]
        rw [wrap64 (by omega) (by omega)]
        refine obind_mk (Eq.trans (by kernel_rfl) hl) ?_
        unfold rlI
        simp only [go_sem, h4, h5]
        rfl
      · obtain ⟨fr, ob, nx, m, ro⟩ := st
        dsimp only at h1 h3 h4
        subst h1; subst h3; subst h4
        simp only [go_sem, T.data_eq t, h8, decide_eq_true h9]
        rw [wrap64 (by omega) (by omega)]
        refine obind_mk (Eq.trans (by kernel_rfl) hl) ?_
        unfold RC at h2
        simp only [go_sem, h2]
    · rw [if_neg h9]
      unfold Rf.data
      simp only [go_sem, T.data_eq t, h8, h9]
end Go.Proofs.YtijfioakpngdhaaDoor

namespace Go.Proofs.YtijfioakpngdhaaDoor
open Go.V
set_option maxRecDepth 100000
set_option linter.unusedSimpArgs false
set_option linter.unusedVariables false

@[go_sem] theorem x_backo (ro : Bool) (base sz : Nat) (xs : List V.Data) (u : Bool) (sh : Objs) (rd : List Nat) : callBack ⟨false, true, ro⟩ base [] sh rd (.own 0, [(0, some (.arr sz xs u))]) = some ⟨.own base, (base, some (.arr sz xs u)) :: sh, rd⟩ := by
  unfold callBack
  cases ro <;> rfl
@[go_sem] theorem x_toDat (ob : Objs) (cs : List AV) : AV.toData ob (.agg cs) = (allSome (AV.toD ob) cs).map .agg := rfl
@[go_sem] theorem x_toDao (ob : Objs) (o : Nat) : AV.toData ob (.own o) = (match oget ob o with | some (.arr sz xs _) => some (V.Data.sl sz xs) | _ => none) := rfl
@[go_sem] theorem x_sha (cs : List AV) (l : List AV) : sharedL (.agg cs :: l) = ownNamesL cs ++ sharedL l := rfl
@[go_sem] theorem x_on0 : ownNamesL [] = [] := rfl
@[go_sem] theorem x_on1 (v : AV) (l : List AV) : ownNamesL (v :: l) = v.ownNames ++ ownNamesL l := rfl
attribute [go_sem] Option.map_none
theorem sizes_rf : ∀ l : List Rf, sizesOk 2 (l.map Rf.data) = true
  | [] => rfl
  | x :: l => by
    show (decide (x.data.cells.length = 2) && sizesOk 2 (l.map Rf.data)) = true
    rw [sizes_rf l]; rfl
theorem sizes_nd : ∀ l : List Nd, sizesOk 4 (l.map Nd.data) = true
  | [] => rfl
  | x :: l => by
    show (decide (x.data.cells.length = 4) && sizesOk 4 (l.map Nd.data)) = true
    rw [sizes_nd l]; rfl

def nextsL : List T → Int → List (List UInt8) → List Rf → List Rf
  | [], _, _, _ => []
  | t :: l, a, names, refs => refE t a names refs :: nextsL l (a + cnt t) names refs
mutual
def nodesE : T → Int → List (List UInt8) → List Rf → List Nd
  | .mk k p n s ls ks, a, names, refs => if k = 8 then nodes1 ks a (names ++ [n]) (refs ++ [refE (.mk k p n s ls ks) a names refs]) else if k = 9 then [] else ⟨k, p, ls, nextsL ks (a + 1) names refs⟩ :: nodesL ks (a + 1) names refs
def nodes1 : List T → Int → List (List UInt8) → List Rf → List Nd
  | [], _, _, _ => []
  | t :: _, a, names, refs => nodesE t a names refs
def nodesL : List T → Int → List (List UInt8) → List Rf → List Nd
  | [], _, _, _ => []
  | t :: l, a, names, refs => nodesE t a names refs ++ nodesL l (a + cnt t) names refs
end
theorem nodesE_eq (t : T) (a : Int) (names : List (List UInt8)) (refs : List Rf) : nodesE t a names refs = if t.kind = 8 then nodes1 t.kids a (names ++ [t.name]) (refs ++ [refE t a names refs]) else if t.kind = 9 then [] else ⟨t.kind, t.prio, t.labels, nextsL t.kids (a + 1) names refs⟩ :: nodesL t.kids (a + 1) names refs := by
  cases t; rw [nodesE]; rfl
theorem nextsL_take (names : List (List UInt8)) (refs : List Rf) : ∀ (l : List T) (a : Int) (i : Nat) (s : T), l[i]? = some s → nextsL (l.take (i + 1)) a names refs = nextsL (l.take i) a names refs ++ [refE s (a + cntL (l.take i)) names refs]
  | t :: l, a, 0, s, h => by
    injection h with h; subst h
    show [refE t a names refs] = [refE t (a + (0 : Nat)) names refs]
    rw [show a + ((0 : Nat) : Int) = a by omega]
  | t :: l, a, i + 1, s, h => by
    simp only [List.take_succ_cons, nextsL, cntL, List.cons_append]
    rw [nextsL_take names refs l (a + cnt t) i s h, show a + (cnt t : Int) + (cntL (l.take i) : Int) = a + ((cnt t + cntL (l.take i) : Nat) : Int) by omega]
theorem nodesL_take (names : List (List UInt8)) (refs : List Rf) : ∀ (l : List T) (a : Int) (i : Nat) (s : T), l[i]? = some s → nodesL (l.take (i + 1)) a names refs = nodesL (l.take i) a names refs ++ nodesE s (a + cntL (l.take i)) names refs
  | t :: l, a, 0, s, h => by
    injection h with h; subst h
    show nodesE t a names refs ++ [] = [] ++ nodesE t (a + (0 : Nat)) names refs
    rw [show a + ((0 : Nat) : Int) = a by omega]; simp
  | t :: l, a, i + 1, s, h => by
    simp only [List.take_succ_cons, nodesL, cntL]
    rw [nodesL_take names refs l (a + cnt t) i s h, show a + (cnt t : Int) + (cntL (l.take i) : Int) = a + ((cnt t + cntL (l.take i) : Nat) : Int) by omega, List.append_assoc]
theorem nextsL_len (names : List (List UInt8)) (refs : List Rf) : ∀ (l : List T) (a : Int), (nextsL l a names refs).length = l.length
  | [], _ => rfl
  | t :: l, a => congrArg (· + 1) (nextsL_len names refs l (a + cnt t))
theorem shape_kinds {t : T} (h : shapeB t = true) : 1 ≤ t.kind ∧ t.kind ≤ 9 := by
  unfold shapeB at h
  by_cases h1 : t.kind = 1 <;> by_cases h2 : t.kind = 2 <;> by_cases h3 : t.kind = 3 <;> by_cases h4 : t.kind = 4 <;> by_cases h5 : t.kind = 5 <;> by_cases h6 : t.kind = 6 <;> by_cases h7 : t.kind = 7 <;> by_cases h8 : t.kind = 8 <;> by_cases h9 : t.kind = 9 <;> first | omega | (simp [h1, h2, h3, h4, h5, h6, h7, h8, h9] at h)
theorem nodesE_len (t : T) : ∀ (a : Int) (names : List (List UInt8)) (refs : List Rf), Shp t → (nodesE t a names refs).length = cnt t := by
  induction t using T.ind with
  | h t ih =>
  intro a names refs hs
  have hL : ∀ (l : List T) (a : Int) (names : List (List UInt8)) (refs : List Rf), (∀ s ∈ l, s ∈ t.kids) → (nodesL l a names refs).length = cntL l := by
    intro l
    induction l with
    | nil => intro _ _ _ _; rfl
    | cons x l ihl =>
      intro a names refs hx
      rw [nodesL, cntL, List.length_append, ihl _ _ _ fun s hs => hx s (List.mem_cons_of_mem _ hs), ih x (hx x List.mem_cons_self) _ _ _ (hs.kid x (hx x List.mem_cons_self))]
  have hk := shape_kinds hs.sh
  rw [nodesE_eq, cnt_eq]
  by_cases h8 : t.kind = 8
  · obtain ⟨s, hks⟩ := hs.one h8
    have hm : s ∈ t.kids := by rw [hks]; exact List.mem_singleton.2 rfl
    rw [if_pos h8, hks, nodes1, ih s hm _ _ _ (hs.kid s hm), if_neg (by omega)]
    simp [cntL]
  · rw [if_neg h8]
    by_cases h9 : t.kind = 9
    · rw [if_pos h9, (hs.var h9).1, if_neg (by omega)]; rfl
    · rw [if_neg h9, if_pos (by omega), List.length_cons, hL _ _ _ _ fun s hs => hs]; omega
theorem nodesL_len (l : List T) (a : Int) (names : List (List UInt8)) (refs : List Rf) (hs : ∀ s ∈ l, Shp s) : (nodesL l a names refs).length = cntL l := by
  induction l generalizing a with
  | nil => rfl
  | cons x l ihl =>
    rw [nodesL, cntL, List.length_append, ihl _ fun s h => hs s (List.mem_cons_of_mem _ h), nodesE_len x _ _ _ (hs x List.mem_cons_self)]

def ndI (t : T) (a : Int) (names : List (List UInt8)) (refs : List Rf) (i : Nat) : St := ⟨[(2, .d (.sl 1 (names.map .str))), (3, .d (.sl 2 (refs.map Rf.data))), (4, .ptr 0 0), (10, .ptr 1 0), (11, .own 3), (12, .d (.int .i64 (a + cntL (t.kids.take i)))), (13, .d (.int .i64 i))],
  [(0, some (.box [.d (.int .i64 t.kind), .d (.int .i64 t.prio), .d (.str t.name), .d (.int .i64 t.shift), .d (.sl 1 (t.labels.map .str)), .d (.sl 6 (t.kids.map T.data))])), (1, some (.box [.d (.int .i64 t.kind), .d (.int .i64 t.prio), .d (.sl 1 (t.labels.map .str)), .own 2])),
   (2, some (.arr 2 ((nextsL (t.kids.take i) a names refs).map Rf.data) true)), (3, some (.arr 4 ((nodesL (t.kids.take i) a names refs).map Nd.data) true))], 4, 0, false⟩

theorem nd_step (t : T) (a : Int) (names : List (List UInt8)) (refs : List Rf) (i : Nat) (hi : i < t.kids.length) (hlen : t.kids.length < 1000000000) (hw : Wf t) (hsz : t.size < 1000000000) (hs : Shp t) (ha : 0 ≤ a ∧ a + T.sizeL t.kids ≤ 1000000000000)
    (h1 : ∀ s ∈ t.kids, ∀ a : Int, RW 32 [.d s.data, .d (.int .i64 a), .d (.sl 1 (names.map .str)), .d (.sl 2 (refs.map Rf.data))] [] = some (.d (refE s a names refs).data, []))
    (h2 : ∀ s ∈ t.kids, ∀ a : Int, 0 ≤ a → a + s.size ≤ 1000000000000 → RW 33 [.d s.data, .d (.int .i64 a), .d (.sl 1 (names.map .str)), .d (.sl 2 (refs.map Rf.data))] [] = some (.own 0, [(0, some (.arr 4 ((nodesE s a names refs).map Nd.data) true))])) :
    ∃ s, exec att RW LW c33_l0 (ndI t a names refs i) = some (.normal, s) ∧ norm [2, 3, 4, 10, 11, 12, 13] s = ndI t a names refs (i + 1) := by
  have hi' : (i : Int) < t.kids.length := by omega
  have hk := kidAt hi
  have hm := List.getElem_mem hi
  have hc1 := cntL_le t.kids i
  have hc2 := cntL_size t.kids
  have hc3 := T.size_eq t
  have hc4 := cnt_le t.kids[i]
  have hc5 := T.size_mem hm
  have hn := nextsL_take names refs t.kids a i _ hk
  have hd := nodesL_take names refs t.kids a i _ hk
  have hct := cntL_take t.kids i _ hk
  have hl1 := nextsL_len names refs (t.kids.take i) a
  rw [List.length_take] at hl1
  have hl2 := nodesL_len (t.kids.take i) a names refs fun s h => hs.kid s (List.mem_of_mem_take h)
  have hl3 := nodesE_len t.kids[i] (a + cntL (t.kids.take i)) names refs (hs.kid _ hm)
  have hu1 := h1 _ hm (a + cntL (t.kids.take i))
  have hc6 := cntL_size (t.kids.take i)
  have hc7 := T.sizeL_take t.kids i _ hk
  have hc8 := T.sizeL_le t.kids (i + 1)
  have hu2 := h2 _ hm (a + cntL (t.kids.take i)) (by omega) (by omega)
  have hu3 := cnt_run t.kids[i] (by omega) (hw.kid hm)
  rw [T.data_eq] at hu1 hu2 hu3
  generalize hrf : refE t.kids[i] (a + cntL (t.kids.take i)) names refs = rf at hu1 hn
  have hrd : rf.data = .agg [.int .i64 rf.node, .int .i64 rf.shift] := rfl
  rw [hrd] at hu1
  have hb1 : decide (((nextsL (t.kids.take i) a names refs).length + 1) * 16 ≤ 140737488355328) = true := by simp; omega
  have hb2 : decide (((nodesL (t.kids.take i) a names refs).length + (nodesE t.kids[i] (a + cntL (t.kids.take i)) names refs).length) * 64 ≤ 140737488355328) = true := by simp; omega
  have hz := sizes_nd (nodesE t.kids[i] (a + cntL (t.kids.take i)) names refs)
  have e1 : (nextsL (t.kids.take (i + 1)) a names refs).map Rf.data = (nextsL (t.kids.take i) a names refs).map Rf.data ++ [.agg [.int .i64 rf.node, .int .i64 rf.shift]] := by rw [hn, List.map_append]; rfl
  have e2 : (nodesL (t.kids.take (i + 1)) a names refs).map Nd.data = (nodesL (t.kids.take i) a names refs).map Nd.data ++ (nodesE t.kids[i] (a + cntL (t.kids.take i)) names refs).map Nd.data := by rw [hd, List.map_append]
  have e3 : a + ((cntL (t.kids.take (i + 1)) : Nat) : Int) = a + (cntL (t.kids.take i) : Int) + (cnt t.kids[i] : Int) := by omega
  refine ⟨?sx, ?g1, ?g2⟩
  case g1 =>
    unfold c33_l0 ndI
    simp only [go_sem, hi', hk, T.data_eq t.kids[i], hu1, hu2, hu3, hb1, hb2, hz]
    rfl
  case g2 =>
    rw [wrap64 (by omega) (by omega), wrap64 (by omega) (by omega)]
    unfold ndI
    rw [e1, e2, e3]
    show _ = _
    kernel_rfl

theorem lookR_shift (names : List (List UInt8)) (refs : List Rf) (x : List UInt8) (s b : Int) (a : Int) (hs : 0 ≤ s ∧ s ≤ 1000000) (hb : 0 ≤ b) (hr : ∀ r ∈ refs, 0 ≤ r.shift ∧ r.shift ≤ b) : ∀ m, m ≤ refs.length → 0 ≤ (lookR names refs x s ⟨a, 0⟩ m).shift ∧ (lookR names refs x s ⟨a, 0⟩ m).shift ≤ b + 1000000
  | 0, _ => by show 0 ≤ (0 : Int) ∧ (0 : Int) ≤ b + 1000000; omega
  | m + 1, hm => by
    rw [lookR_succ]
    by_cases h : names[m]? = some x
    · rw [if_pos h]
      have hk : refs[m]? = some (refs[m]'(by omega)) := List.getElem?_eq_getElem _
      have := hr (refs[m]'(by omega)) (List.getElem_mem _)
      rw [hk]
      show 0 ≤ (refs[m]'(by omega)).shift + s ∧ (refs[m]'(by omega)).shift + s ≤ b + 1000000
      omega
    · rw [if_neg h]
      exact lookR_shift names refs x s b a hs hb hr m (by omega)
theorem refE_shift (t : T) : ∀ (a b : Int) (names : List (List UInt8)) (refs : List Rf), Shp t → refs.length = names.length → 0 ≤ b → (∀ r ∈ refs, 0 ≤ r.shift ∧ r.shift ≤ b) → 0 ≤ (refE t a names refs).shift ∧ (refE t a names refs).shift ≤ b + 1000000 := by
  induction t using T.ind with
  | h t ih =>
  intro a b names refs hs hl hb hr
  rw [refE_eq]
  by_cases h8 : t.kind = 8
  · obtain ⟨s, hks⟩ := hs.one h8
    have hm : s ∈ t.kids := by rw [hks]; exact List.mem_singleton.2 rfl
    rw [if_pos h8, hks, refE1]
    exact ih s hm a b names refs (hs.kid s hm) hl hb hr
  · rw [if_neg h8]
    by_cases h9 : t.kind = 9
    · rw [if_pos h9]
      exact lookR_shift names refs t.name t.shift b a (hs.var h9).2 hb hr _ (by omega)
    · rw [if_neg h9]
      show 0 ≤ (0 : Int) ∧ (0 : Int) ≤ b + 1000000
      omega

theorem nodes_run (t : T) : ∀ (a : Int) (names : List (List UInt8)) (refs : List Rf), Shp t → Wf t → names.length + t.size < 1000000000 → refs.length = names.length → 0 ≤ a → a + t.size ≤ 1000000000000 →
    (∀ r ∈ refs, 0 ≤ r.shift ∧ r.shift + 1000000 * t.size ≤ 100000000000000000) →
    RW 33 [.d t.data, .d (.int .i64 a), .d (.sl 1 (names.map .str)), .d (.sl 2 (refs.map Rf.data))] [] = some (.own 0, [(0, some (.arr 4 ((nodesE t a names refs).map Nd.data) true))]) := by
  induction t using T.ind with
  | h t ih =>
  intro a names refs hs hw hsz hr ha0 ha hsh
  have hsz' := T.size_eq t
  refine runW_fn rfl rfl ?_
  unfold runFn c33
  rw [nodesE_eq]
  have hrun : RW 32 [.d t.data, .d (.int .i64 a), .d (.sl 1 (names.map .str)), .d (.sl 2 (refs.map Rf.data))] [] = some (.d (refE t a names refs).data, []) :=
    ref_run t a names refs hs (by omega) hr fun r h => by have := hsh r h; omega
  have hrs := refE_shift t a (100000000000000000 - 1000000 * t.size) names refs hs hr (by omega) fun r h => by have := hsh r h; omega
  by_cases h8 : t.kind = 8
  · obtain ⟨s, hks⟩ := hs.one h8
    have hm : s ∈ t.kids := by rw [hks]; exact List.mem_singleton.2 rfl
    have hg : t.kids[0]? = some s := by rw [hks]; rfl
    have hss := T.size_mem hm
    have hu := ih s hm a (names ++ [t.name]) (refs ++ [refE t a names refs]) (hs.kid s hm) (hw.kid hm) (by rw [List.length_append, List.length_singleton]; omega) (by rw [List.length_append, List.length_append, List.length_singleton, List.length_singleton, hr]) ha0 (by omega) (fun r h => by
      rcases List.mem_append.1 h with h | h
      · have := hsh r h; omega
      · rw [List.mem_singleton.1 h]; omega)
    rw [if_pos h8, hks, nodes1]
    rw [T.data_eq, List.map_append, List.map_append] at hu
    simp only [List.map_cons, List.map_nil] at hu
    generalize hrf : refE t a names refs = rf at hu hrun
    have hrd : rf.data = .agg [.int .i64 rf.node, .int .i64 rf.shift] := rfl
    rw [hrd] at hu hrun
    rw [T.data_eq] at hrun
    have hb1 : decide (names.length * 16 ≤ 140737488355328) = true := by simp; omega
    have hb2 : decide ((names.length + 1) * 16 ≤ 140737488355328) = true := by simp; omega
    have hb3 : decide (refs.length * 16 ≤ 140737488355328) = true := by simp; omega
    have hb4 : decide ((refs.length + 1) * 16 ≤ 140737488355328) = true := by simp; omega
    have z1 := sizes_str names
    have z2 := sizes_rf refs
    simp only [go_sem, T.data_eq t, decide_eq_true h8, hg, T.data_eq s, hrun, hu, hb1, hb2, hb3, hb4, z1, z2]
    show _ = _
    kernel_rfl
  · rw [if_neg h8]
    by_cases h9 : t.kind = 9
    · rw [if_pos h9]
      simp only [go_sem, T.data_eq t, decide_eq_true h9, h8]
      show _ = _
      kernel_rfl
    · rw [if_neg h9]
      have hkl : t.kids.length ≤ T.sizeL t.kids := by
        have : ∀ l : List T, l.length ≤ T.sizeL l := by
          intro l
          induction l with
          | nil => simp
          | cons x l ih => rw [T.sizeL, List.length_cons]; have := T.size_eq x; omega
        exact this _
      have e0 : ndI t (a + 1) names refs 0 = ⟨[(2, .d (.sl 1 (names.map .str))), (3, .d (.sl 2 (refs.map Rf.data))), (4, .ptr 0 0), (10, .ptr 1 0), (11, .own 3), (12, .d (.int .i64 (a + 1))), (13, .d (.int .i64 0))],
          (ndI t (a + 1) names refs 0).ob, 4, 0, false⟩ := by
        unfold ndI
        simp only [List.take_zero, cntL]
        rw [show a + 1 + ((0 : Nat) : Int) = a + 1 by omega]
        rfl
      have hle := nextsL_len names refs t.kids (a + 1)
      have hle2 := nodesL_len t.kids (a + 1) names refs hs.kid
      have hcs := cntL_size t.kids
      have hb1 : decide ((1 + (nodesL t.kids (a + 1) names refs).length) * 64 ≤ 140737488355328) = true := by simp; omega
      have z1 := sizes_nd (nodesL t.kids (a + 1) names refs)
      simp only [go_sem, T.data_eq t, h8, h9]
      rw [wrap64 (by omega) (by omega)]
      refine obind_mk (a := ?e) (Eq.trans (Eq.trans (by kernel_rfl) (congrArg (LW [2, 3, 4, 10, 11, 12, 13] c33_l0) e0).symm) (loop_from0 (vf := vf) (att := att) (ext := ext) (keep := [2, 3, 4, 10, 11, 12, 13]) (c := c33_l0) (I := ndI t (a + 1) names refs) (n := t.kids.length) ?hs ?he ?hn)) ?rest
      case hs =>
        intro i hi
        exact nd_step t (a + 1) names refs i hi (by omega) hw (by omega) hs (by omega)
          (fun s hm a => ref_run s a names refs (hs.kid s hm) (by omega) hr fun r h => by have := hsh r h; omega)
          (fun s hm a ha0 ha => ih s hm a names refs (hs.kid s hm) (hw.kid hm) (by have := T.size_mem hm; omega) hr ha0 ha (fun r h => by have := hsh r h; have := T.size_mem hm; omega))
      case he =>
        unfold c33_l0 ndI
        simp only [go_sem, List.take_length]
        rfl
      case hn => intro h; cases h
      case rest =>
        simp only [go_sem, hb1, z1]
        show _ = _
        kernel_rfl
end Go.Proofs.YtijfioakpngdhaaDoor

namespace Go.Proofs.YtijfioakpngdhaaDoor
open Go.V
set_option maxRecDepth 100000
set_option linter.unusedSimpArgs false
set_option linter.unusedVariables false

@[go_sem] theorem x_backt (ro : Bool) (base sz sz' : Nat) (xs ys : List V.Data) (u u' : Bool) (sh : Objs) (rd : List Nat) : callBack ⟨false, true, ro⟩ base [] sh rd (.tup [.own 0, .own 1], [(0, some (.arr sz xs u)), (1, some (.arr sz' ys u'))]) =
    some ⟨.tup [.own base, .own (base + 1)], (base, some (.arr sz xs u)) :: (base + 1, some (.arr sz' ys u')) :: sh, rd⟩ := by
  unfold callBack
  cases ro <;> rfl

/-- types whose graph can be made -/
structure Fine (l : List T) : Prop where
  shp : ∀ t ∈ l, Shp t
  wf : ∀ t ∈ l, Wf t
  size : T.sizeL l + l.length ≤ 1000000

def bdI (l : List T) (i : Nat) : St := ⟨[(0, .d (.sl 6 (l.map T.data))), (4, .own 0), (5, .own 1), (6, .d (.int .i64 i))],
  [(0, some (.arr 4 ((nodesL (l.take i) 0 [] []).map Nd.data) true)), (1, some (.arr 2 ((nextsL (l.take i) 0 [] []).map Rf.data) true))], 2, 0, false⟩
theorem build_run (l : List T) (h : Fine l) : RW 13 [.d (.sl 6 (l.map T.data))] [] = some (.tup [.own 0, .own 1], [(0, some (.arr 4 ((nodesL l 0 [] []).map Nd.data) true)), (1, some (.arr 2 ((nextsL l 0 [] []).map Rf.data) true))]) := by
  have hsz := h.size
  refine runW_fn rfl rfl ?_
  unfold runFn c13
  simp only [go_sem]
  refine obind_mk (a := ?e) (Eq.trans (by kernel_rfl) (loop_from0 (vf := vf) (att := att) (ext := ext) (keep := [0, 4, 5, 6]) (c := c13_l0) (I := bdI l) (n := l.length) ?hs ?he ?hn)) ?rest
  case hs =>
    intro i hi
    have hi' : (i : Int) < l.length := by omega
    have hk : l[i]? = some l[i] := List.getElem?_eq_getElem hi
    have hm := List.getElem_mem hi
    have hc1 := cntL_le l i
    have hc2 := cntL_size l
    have hc7 := T.sizeL_take l i _ hk
    have hc8 := T.sizeL_le l (i + 1)
    have hn := nextsL_take [] [] l 0 i _ hk
    have hd := nodesL_take [] [] l 0 i _ hk
    have hl1 := nextsL_len [] [] (l.take i) 0
    rw [List.length_take] at hl1
    have hl2 := nodesL_len (l.take i) 0 [] [] fun s hs => h.shp s (List.mem_of_mem_take hs)
    have hl3 := nodesE_len l[i] (0 + cntL (l.take i)) [] [] (h.shp _ hm)
    have hc4 := cnt_le l[i]
    rw [Int.zero_add] at hn hd hl3
    have hu1 := ref_run l[i] (cntL (l.take i)) [] [] (h.shp _ hm) (by simp) rfl (fun r hr => by cases hr)
    have hu2 := nodes_run l[i] (cntL (l.take i)) [] [] (h.shp _ hm) (h.wf _ hm) (by simp; omega) rfl (by omega) (by omega) (fun r hr => by cases hr)
    rw [T.data_eq, List.map_nil, List.map_nil] at hu1 hu2
    generalize hrf : refE l[i] (cntL (l.take i)) [] [] = rf at hu1 hn
    have hrd : rf.data = .agg [.int .i64 rf.node, .int .i64 rf.shift] := rfl
    rw [hrd] at hu1
    have hb1 : decide (((nextsL (l.take i) 0 [] []).length + 1) * 16 ≤ 140737488355328) = true := by simp; omega
    have hb2 : decide (((nodesL (l.take i) 0 [] []).length + (nodesE l[i] (cntL (l.take i)) [] []).length) * 64 ≤ 140737488355328) = true := by simp; omega
    rw [hl2] at hb2
    have hz := sizes_nd (nodesE l[i] (cntL (l.take i)) [] [])
    have e1 : (nextsL (l.take (i + 1)) 0 [] []).map Rf.data = (nextsL (l.take i) 0 [] []).map Rf.data ++ [.agg [.int .i64 rf.node, .int .i64 rf.shift]] := by rw [hn, List.map_append]; rfl
    have e2 : (nodesL (l.take (i + 1)) 0 [] []).map Nd.data = (nodesL (l.take i) 0 [] []).map Nd.data ++ (nodesE l[i] (cntL (l.take i)) [] []).map Nd.data := by rw [hd, List.map_append]
    refine ⟨?sx, ?g1, ?g2⟩
    case g1 =>
      unfold c13_l0 bdI
      simp only [go_sem, hi', hk, T.data_eq l[i], hl2, hu1, hu2, hb1, hb2, hz]
      rfl
    case g2 =>
      rw [wrap64 (by omega) (by omega)]
      unfold bdI
      rw [e1, e2]
      show _ = _
      kernel_rfl
  case he =>
    unfold c13_l0 bdI
    simp only [go_sem, List.take_length]
    rfl
  case hn => intro h; cases h
  case rest =>
    simp only [go_sem]
    show _ = _
    kernel_rfl

/-! ### the graph, copied -/
def gi (l : List T) : List Nd := nodesL l 0 [] []
def gr (l : List T) : List Rf := nextsL l 0 [] []
def grI (N : List Nd) (R : List Rf) (i : Nat) : St := ⟨[(2, .ptr 0 0), (4, .own 2), (5, .own 3), (6, .ptr 4 0), (7, .own 6), (8, .d (.int .i64 i))],
  [(0, some (.box [.own 1])), (1, some (.arr 4 [] true)), (2, some (.arr 4 (N.map Nd.data) true)), (3, some (.arr 2 (R.map Rf.data) true)), (4, some (.box [.own 5])), (5, some (.arr 4 ((N.take i).map Nd.data) true)), (6, some (.arr 2 [] true))], 7, 0, false⟩
def grJ (N : List Nd) (R : List Rf) (i : Nat) (n : Nd) (j : Nat) : St := ⟨[(2, .ptr 0 0), (4, .own 2), (5, .own 3), (6, .ptr 4 0), (7, .own 6), (8, .d (.int .i64 i)), (9, .ptr 7 0), (10, .d (.int .i64 j))],
  [(0, some (.box [.own 1])), (1, some (.arr 4 [] true)), (2, some (.arr 4 (N.map Nd.data) true)), (3, some (.arr 2 (R.map Rf.data) true)), (4, some (.box [.own 5])), (5, some (.arr 4 ((N.take i).map Nd.data) true)), (6, some (.arr 2 [] true)),
   (7, some (.box [.d (.int .i64 n.kind), .d (.int .i64 n.prio), .own 8, .own 9])), (8, some (.arr 1 (n.labels.map .str) true)), (9, some (.arr 2 ((n.next.take j).map Rf.data) true))], 10, 0, false⟩
theorem gr_inner (N : List Nd) (R : List Rf) (i : Nat) (n : Nd) (hn : N[i]? = some n) (hl : n.next.length < 1000000000) (j : Nat) (hj : j < n.next.length) :
    ∃ s, exec att RW LW c12_l1 (grJ N R i n j) = some (.normal, s) ∧ norm [2, 4, 5, 6, 7, 8, 9, 10] s = grJ N R i n (j + 1) := by
  have hiN : i < N.length := (List.getElem?_eq_some_iff.1 hn).1
  have hj' : (j : Int) < n.next.length := by omega
  have hk : n.next[j]? = some n.next[j] := List.getElem?_eq_getElem hj
  have hnd : n.data = .agg [.int .i64 n.kind, .int .i64 n.prio, .sl 1 (n.labels.map .str), .sl 2 (n.next.map Rf.data)] := rfl
  generalize hrf : n.next[j] = rf at hk
  have hrd : rf.data = .agg [.int .i64 rf.node, .int .i64 rf.shift] := rfl
  have hb1 : decide ((j + 1) * 16 ≤ 140737488355328) = true := by simp; omega
  have hlt : (n.next.take j).length = j := by rw [List.length_take]; omega
  have e1 : (n.next.take (j + 1)).map Rf.data = (n.next.take j).map Rf.data ++ [.agg [.int .i64 rf.node, .int .i64 rf.shift]] := by
    rw [List.take_succ_eq_append_getElem hj, List.map_append, hrf]; rfl
  refine ⟨?sx, ?g1, ?g2⟩
  case g1 =>
    unfold c12_l1 grJ
    simp only [go_sem, hj', hn, hnd, hk, hrd, hiN, hlt, hb1]
    rfl
  case g2 =>
    rw [wrap64 (by omega) (by omega)]
    unfold grJ
    rw [e1]
    show _ = _
    kernel_rfl
theorem gr_outer (N : List Nd) (R : List Rf) (i : Nat) (hi : i < N.length) (hN : N.length < 1000000000) (hl : ∀ n ∈ N, n.labels.length < 1000000000 ∧ n.next.length < 1000000000) :
    ∃ s, exec att RW LW c12_l2 (grI N R i) = some (.normal, s) ∧ norm [2, 4, 5, 6, 7, 8] s = grI N R (i + 1) := by
  have hi' : (i : Int) < N.length := by omega
  have hn : N[i]? = some N[i] := List.getElem?_eq_getElem hi
  have hm := hl _ (List.getElem_mem hi)
  generalize hx : N[i] = n at hn hm
  have hnd : n.data = .agg [.int .i64 n.kind, .int .i64 n.prio, .sl 1 (n.labels.map .str), .sl 2 (n.next.map Rf.data)] := rfl
  have hb1 : decide (n.labels.length * 16 ≤ 140737488355328) = true := by simp; omega
  have hb2 : decide ((i + 1) * 64 ≤ 140737488355328) = true := by simp; omega
  have hlt : (N.take i).length = i := by rw [List.length_take]; omega
  have z1 := sizes_str n.labels
  have e1 : (N.take (i + 1)).map Nd.data = (N.take i).map Nd.data ++ [.agg [.int .i64 n.kind, .int .i64 n.prio, .sl 1 (n.labels.map .str), .sl 2 (n.next.map Rf.data)]] := by
    rw [List.take_succ_eq_append_getElem hi, List.map_append, hx]; rfl
  refine ⟨?sx, ?g1, ?g2⟩
  case g1 =>
    unfold c12_l2 grI
    simp only [go_sem, hi', hi, hn, hnd, hb1, z1]
    refine obind_mk (a := ?e2) (Eq.trans (by kernel_rfl) (loop_from0 (vf := vf) (att := att) (ext := ext) (keep := [2, 4, 5, 6, 7, 8, 9, 10]) (c := c12_l1) (I := grJ N R i n) (n := n.next.length) ?hs2 ?he2 ?hn2)) ?rest2
    case hs2 => exact fun j hj => gr_inner N R i n hn hm.2 j hj
    case he2 =>
      unfold c12_l1 grJ
      simp only [go_sem, hi, hn, hnd, List.take_length]
      rfl
    case hn2 => intro h; cases h
    case rest2 =>
      simp only [go_sem, hlt, hb2]
      rfl
  case g2 =>
    rw [wrap64 (by omega) (by omega)]
    unfold grI
    rw [e1]
    show _ = _
    kernel_rfl

def grK (N : List Nd) (R : List Rf) (i : Nat) : St := ⟨[(2, .ptr 0 0), (5, .own 2), (6, .ptr 3 0), (7, .own 5), (11, .d (.int .i64 i))],
  [(0, some (.box [.own 1])), (1, some (.arr 4 [] true)), (2, some (.arr 2 (R.map Rf.data) true)), (3, some (.box [.own 4])), (4, some (.arr 4 (N.map Nd.data) true)), (5, some (.arr 2 ((R.take i).map Rf.data) true))], 6, 0, false⟩
theorem gr_refs (N : List Nd) (R : List Rf) (i : Nat) (hi : i < R.length) (hR : R.length < 1000000000) : ∃ s, exec att RW LW c12_l0 (grK N R i) = some (.normal, s) ∧ norm [2, 5, 6, 7, 11] s = grK N R (i + 1) := by
  have hi' : (i : Int) < R.length := by omega
  have hn : R[i]? = some R[i] := List.getElem?_eq_getElem hi
  generalize hx : R[i] = rf at hn
  have hrd : rf.data = .agg [.int .i64 rf.node, .int .i64 rf.shift] := rfl
  have hb1 : decide ((i + 1) * 16 ≤ 140737488355328) = true := by simp; omega
  have hlt : (R.take i).length = i := by rw [List.length_take]; omega
  have e1 : (R.take (i + 1)).map Rf.data = (R.take i).map Rf.data ++ [.agg [.int .i64 rf.node, .int .i64 rf.shift]] := by
    rw [List.take_succ_eq_append_getElem hi, List.map_append, hx]; rfl
  refine ⟨?sx, ?g1, ?g2⟩
  case g1 =>
    unfold c12_l0 grK
    simp only [go_sem, hi', hi, hn, hrd, hlt, hb1]
    rfl
  case g2 =>
    rw [wrap64 (by omega) (by omega)]
    unfold grK
    rw [e1]
    show _ = _
    kernel_rfl

theorem shape_lab {t : T} (h : shapeB t = true) (h7 : t.kind ≤ 7) : t.labels.length ≤ t.kids.length := by
  have hk := shape_kinds h
  unfold shapeB at h
  by_cases h1 : t.kind = 1
  · simp [h1] at h; simp [h.2.2.2.1]
  by_cases h2 : t.kind = 2
  · simp [h2] at h; simp [h.2.2.2.1]
  by_cases h3 : t.kind = 3
  · simp [h3] at h; simp [h.2.2.2.1]
  by_cases h4 : t.kind = 4
  · simp [h4] at h; simp [h.2.2.2.1]
  by_cases h5 : t.kind = 5
  · simp [h5] at h; simp [h.2.2.2.1]
  by_cases h6 : t.kind = 6
  · simp [h6] at h; omega
  by_cases h8 : t.kind = 7
  · simp [h8] at h; omega
  omega
theorem len_sizeL (l : List T) : l.length ≤ T.sizeL l := by
  induction l with
  | nil => simp
  | cons x l ih => rw [T.sizeL, List.length_cons]; have := T.size_eq x; omega
theorem nodesE_bound (t : T) : ∀ (a : Int) (names : List (List UInt8)) (refs : List Rf), Shp t → ∀ n ∈ nodesE t a names refs, n.labels.length ≤ t.size ∧ n.next.length ≤ t.size := by
  induction t using T.ind with
  | h t ih =>
  intro a names refs hs n hn
  have hsz := T.size_eq t
  have hll := len_sizeL t.kids
  have hL : ∀ (l : List T) (a : Int), (∀ s ∈ l, s ∈ t.kids) → ∀ n ∈ nodesL l a names refs, n.labels.length ≤ t.size ∧ n.next.length ≤ t.size := by
    intro l
    induction l with
    | nil => intro _ _ n hn; cases hn
    | cons x l ihl =>
      intro a hx n hn
      rw [nodesL] at hn
      rcases List.mem_append.1 hn with hn | hn
      · have hm := hx x List.mem_cons_self
        have := ih x hm _ _ _ (hs.kid x hm) n hn
        have := T.size_mem hm
        omega
      · exact ihl _ (fun s h => hx s (List.mem_cons_of_mem _ h)) n hn
  have hk := shape_kinds hs.sh
  rw [nodesE_eq] at hn
  by_cases h8 : t.kind = 8
  · obtain ⟨s, hks⟩ := hs.one h8
    have hm : s ∈ t.kids := by rw [hks]; exact List.mem_singleton.2 rfl
    rw [if_pos h8, hks, nodes1] at hn
    have := ih s hm _ _ _ (hs.kid s hm) n hn
    have := T.size_mem hm
    omega
  · rw [if_neg h8] at hn
    by_cases h9 : t.kind = 9
    · rw [if_pos h9] at hn; cases hn
    · rw [if_neg h9] at hn
      rcases List.mem_cons.1 hn with hn | hn
      · have := shape_lab hs.sh (by omega)
        have hl := nextsL_len names refs t.kids (a + 1)
        subst hn
        show t.labels.length ≤ _ ∧ (nextsL t.kids (a + 1) names refs).length ≤ _
        omega
      · exact hL _ _ (fun s h => h) n hn
theorem nodesL_bound (l : List T) (a : Int) (h : ∀ t ∈ l, Shp t) : ∀ n ∈ nodesL l a [] [], n.labels.length ≤ T.sizeL l ∧ n.next.length ≤ T.sizeL l := by
  induction l generalizing a with
  | nil => intro n hn; cases hn
  | cons x l ihl =>
    intro n hn
    rw [nodesL] at hn
    rw [T.sizeL]
    rcases List.mem_append.1 hn with hn | hn
    · have := nodesE_bound x _ _ _ (h x List.mem_cons_self) n hn; omega
    · have := ihl _ (fun s hs => h s (List.mem_cons_of_mem _ hs)) n hn; omega

theorem graph_run (l : List T) (h : Fine l) : RW 12 [.d (.sl 6 (l.map T.data))] [] = some (.tup [.agg [.own 0], .own 1], [(0, some (.arr 4 ((nodesL l 0 [] []).map Nd.data) true)), (1, some (.arr 2 ((nextsL l 0 [] []).map Rf.data) true))]) := by
  have hsz := h.size
  have hc := cntL_size l
  have hl1 := nextsL_len [] [] l 0
  have hl2 := nodesL_len l 0 [] [] h.shp
  have hg := nodesL_bound l 0 h.shp
  have hb := build_run l h
  generalize nodesL l 0 [] [] = N at *
  generalize nextsL l 0 [] [] = R at *
  refine runW_fn rfl rfl ?_
  unfold runFn c12
  simp only [go_sem, hb]
  refine obind_mk (a := ?e) (Eq.trans (by kernel_rfl) (loop_from0 (vf := vf) (att := att) (ext := ext) (keep := [2, 4, 5, 6, 7, 8]) (c := c12_l2) (I := grI N R) (n := N.length) ?hs ?he ?hn)) ?rest
  case hs => exact fun i hi => gr_outer N R i hi (by omega) fun n hn => by have := hg n hn; omega
  case he =>
    unfold c12_l2 grI
    simp only [go_sem, List.take_length]
    rfl
  case hn => intro h; cases h
  case rest =>
    simp only [go_sem]
    refine obind_mk (a := ?e3) (Eq.trans (by kernel_rfl) (loop_from0 (vf := vf) (att := att) (ext := ext) (keep := [2, 5, 6, 7, 11]) (c := c12_l0) (I := grK N R) (n := R.length) ?hs3 ?he3 ?hn3)) ?rest3
    case hs3 => exact fun i hi => gr_refs N R i hi (by omega)
    case he3 =>
      unfold c12_l0 grK
      simp only [go_sem, List.take_length]
      rfl
    case hn3 => intro h; cases h
    case rest3 =>
      simp only [go_sem]
      show _ = _
      kernel_rfl
end Go.Proofs.YtijfioakpngdhaaDoor

namespace Go.Proofs.YtijfioakpngdhaaDoor
open Go.V
set_option maxRecDepth 100000
set_option linter.unusedSimpArgs false
set_option linter.unusedVariables false

def reachG (ob : Objs) (n o : Nat) (todo seen : List Nat) : Option AObj → List Nat
  | none => reach ob n todo seen
  | some x => reach ob n (x.names ++ todo) (seen ++ [o])
@[go_sem] theorem z_reach (ob : Objs) (n o : Nat) (todo seen : List Nat) : reach ob (n + 1) (o :: todo) seen = bcond (mem o seen) (fun _ => reach ob n todo seen) (fun _ => reachG ob n o todo seen (oget ob o)) := by
  rw [reach]
  cases mem o seen with
  | true => rfl
  | false => cases oget ob o <;> rfl
@[go_sem] theorem z_reach0 (ob : Objs) (n : Nat) (seen : List Nat) : reach ob n [] seen = seen := by cases n <;> rfl
@[go_sem] theorem z_reachn (ob : Objs) (n o : Nat) (todo seen : List Nat) : reachG ob n o todo seen none = reach ob n todo seen := rfl
@[go_sem] theorem z_reachs (ob : Objs) (n o : Nat) (todo seen : List Nat) (x : AObj) : reachG ob n o todo seen (some x) = reach ob n (x.names ++ todo) (seen ++ [o]) := rfl
@[go_sem] theorem z_nmb (cs : List AV) : (AObj.box cs).names = namesL cs := rfl
@[go_sem] theorem z_nma (s : Nat) (xs : List V.Data) (u : Bool) : (AObj.arr s xs u).names = [] := rfl
@[go_sem] theorem z_nmp (o f : Nat) (l : List AV) : namesL (.ptr o f :: l) = o :: namesL l := rfl
@[go_sem] theorem z_vp (ob : Objs) (o f : Nat) : (AV.ptr o f).view ob = .ptr o f := rfl
@[go_sem] theorem z_shp (o f : Nat) (l : List AV) : sharedL (.ptr o f :: l) = sharedL l := rfl
@[go_sem] theorem z_renp (ρ : Nat → Option Nat) (o f : Nat) (l : List AV) : renL ρ (.ptr o f :: l) = orAny (ρ o) (.ptr · f) :: renL ρ l := rfl
@[go_sem] theorem z_orAny (o : Nat) (f : Nat → AV) : orAny (some o) f = f o := rfl
@[go_sem] theorem z_idx (o x : Nat) (l : List Nat) : idxOf o (x :: l) = bcond (Nat.beq x o) (fun _ => some 0) (fun _ => (idxOf o l).map (· + 1)) := by
  rw [idxOf]; cases Nat.beq x o <;> rfl
@[go_sem] theorem z_sub (ob : Objs) (ρ : Nat → Option Nat) (i o : Nat) (l : List Nat) : subObjs ob ρ i (o :: l) = (i, (oget ob o).map (AObj.ren ρ)) :: subObjs ob ρ (i + 1) l := rfl
@[go_sem] theorem z_renb (ρ : Nat → Option Nat) (cs : List AV) : AObj.ren ρ (.box cs) = .box (renL ρ cs) := rfl
@[go_sem] theorem z_nobs (ob : Objs) (o : Nat) (l : List Nat) : namesObs ob (o :: l) = (match oget ob o with | some x => x.names | none => []) ++ namesObs ob l := rfl

@[go_sem low] theorem z_cb (b k ro : Bool) (base : Nat) (names : List Nat) (sh : Objs) (rd : List Nat) (v : AV) (o' : Objs) : callBack ⟨b, k, ro⟩ base names sh rd (v, o') =
    need (fitsW names.length o' && (k || (v.flat && flatObs o'))) (some ⟨v.ren (backOf names base), localsUpd names.length base (backOf names base) o' ++ bcond ro (fun _ => []) (fun _ => importsUpd (backOf names base) o' 0 names) ++ bcond k (fun _ => sh) (fun _ => []), names ++ rd⟩) := nr rfl
@[go_sem] theorem z_fit0 (m : Nat) : fitsW m [] = true := rfl
@[go_sem] theorem z_fit1 (m j : Nat) (x : Option AObj) (l : Objs) : fitsW m ((j, x) :: l) = (Nat.blt j (m + 8) && fitsW m l) := rfl
@[go_sem] theorem z_rd (ρ : Nat → Option Nat) (x : V.Data) : (AV.d x).ren ρ = .d x := rfl
@[go_sem] theorem z_ro (ρ : Nat → Option Nat) (o : Nat) : (AV.own o).ren ρ = orAny (ρ o) .own := rfl
@[go_sem] theorem z_ra (ρ : Nat → Option Nat) (cs : List AV) : (AV.agg cs).ren ρ = .agg (renL ρ cs) := rfl
@[go_sem] theorem z_rlo (ρ : Nat → Option Nat) (o : Nat) (l : List AV) : renL ρ (.own o :: l) = orAny (ρ o) .own :: renL ρ l := rfl
@[go_sem] theorem z_lu0 (m base : Nat) (back : Nat → Option Nat) : localsUpd m base back [] = [] := rfl
@[go_sem] theorem z_lu1 (m base j : Nat) (back : Nat → Option Nat) (x : Option AObj) (l : Objs) : localsUpd m base back ((j, x) :: l) = bcond (Nat.ble m j) (fun _ => (base + (j - m), x.map (AObj.ren back)) :: localsUpd m base back l) (fun _ => localsUpd m base back l) := by
  rw [localsUpd]; cases Nat.ble m j <;> rfl
@[go_sem] theorem z_iu0 (back : Nat → Option Nat) (o' : Objs) (j : Nat) : importsUpd back o' j [] = [] := rfl
@[go_sem] theorem z_iu1 (back : Nat → Option Nat) (o' : Objs) (j o : Nat) (l : List Nat) : importsUpd back o' j (o :: l) = (o, (oget o' j).map (AObj.ren back)) :: importsUpd back o' (j + 1) l := rfl
@[go_sem] theorem z_rna (ρ : Nat → Option Nat) (s : Nat) (xs : List V.Data) (u : Bool) : AObj.ren ρ (.arr s xs u) = .arr s xs u := rfl
@[go_sem] theorem z_back (names : List Nat) (base j : Nat) : backOf names base j = bcond (Nat.ble names.length j) (fun _ => bcond (Nat.blt (j - names.length) 8) (fun _ => some (base + (j - names.length))) (fun _ => none)) (fun _ => names[j]?) := by
  unfold backOf
  rw [show callW = 8 from rfl]
  cases Nat.ble names.length j <;> cases Nat.blt (j - names.length) 8 <;> rfl
@[go_sem] theorem z_vc (ob : Objs) (f : Nat) (cs : List AV) : (AV.clos f cs).view ob = .clos f cs := rfl
@[go_sem] theorem z_shc (f : Nat) (cs l : List AV) : sharedL (.clos f cs :: l) = sharedL l := rfl
@[go_sem] theorem z_nmc (f : Nat) (cs l : List AV) : namesL (.clos f cs :: l) = namesL cs ++ namesL l := rfl
@[go_sem] theorem z_renc (ρ : Nat → Option Nat) (f : Nat) (cs l : List AV) : renL ρ (.clos f cs :: l) = .clos f (renL ρ cs) :: renL ρ l := rfl
/-- nodes whose lists are short and whose references are near -/
structure NdOk (l : List Nd) : Prop where
  len : l.length < 1000000000
  lists : ∀ x ∈ l, x.labels.length < 1000000000 ∧ x.next.length < 1000000000
  refs : ∀ x ∈ l, ∀ r ∈ x.next, -1000000000000 ≤ r.node ∧ r.node ≤ 1000000000000
theorem nodeL_zero (names : List (List UInt8)) (all : Bool) : ∀ (l : List T) (i : Nat), nodeL names all l i = 0 → ∀ s ∈ l, ∃ b, nodeV s names names.length b = 0
  | [], _, _, s, hs => by cases hs
  | t :: l, i, h, s, hs => by
    rw [nodeL] at h
    by_cases hz : nodeV t names names.length (decide (0 < i) || all) = 0
    · rw [if_pos hz] at h
      rcases List.mem_cons.1 hs with e | hs
      · exact ⟨_, e ▸ hz⟩
      · exact nodeL_zero names all l (i + 1) h s hs
    · rw [if_neg hz] at h; exact absurd h hz
theorem findE_ne (names : List (List UInt8)) (x : List UInt8) : ∀ m, findE names x 0 m ≠ 0
  | 0 => by show (4 : Int) ≠ 0; decide
  | m + 1 => by
    rw [findE_succ]
    split
    · rw [if_neg (by omega)]; decide
    · exact findE_ne names x m
theorem node_zero (t : T) : ∀ (names : List (List UInt8)) (g : Int) (ses : Bool), Wf t → names.length + t.size < 1000000000 → nodeV t names g ses = 0 → Shp t ∧ (g = 0 → 1 ≤ cnt t) := by
  induction t using T.ind with
  | h t ih =>
  intro names g ses hw hs hz
  have hsz := T.size_eq t
  rw [(node_run t names g ses hw hs).2] at hz
  unfold nodeS at hz
  by_cases h1 : shapeB t = false ∨ ses = true ∧ (t.kind = 1 ∨ t.kind = 2)
  · rw [if_pos h1] at hz; cases hz
  · rw [if_neg h1] at hz
    have hsh : shapeB t = true := by cases hb : shapeB t; exact absurd (.inl hb) h1; rfl
    have hk := shape_kinds hsh
    by_cases h9 : t.kind = 9
    · rw [if_pos h9] at hz
      have hnil : t.kids = [] := by
        have := hsh
        unfold shapeB at this
        simp only [h9] at this
        simp at this
        exact List.eq_nil_of_length_eq_zero (by have := this.2.2.2.2; simpa using this)
      refine ⟨.mk t hsh (fun s hs => (by rw [hnil] at hs; cases hs)), fun hg => ?_⟩
      subst hg
      exact absurd hz (findE_ne _ _ _)
    · rw [if_neg h9] at hz
      by_cases h8 : t.kind = 8
      · rw [if_pos h8] at hz
        have hkl : ∃ s, t.kids = [s] := by
          have := hsh
          unfold shapeB at this
          simp only [h8] at this
          simp at this
          exact List.length_eq_one_iff.1 (by omega)
        obtain ⟨s, hks⟩ := hkl
        have hm : s ∈ t.kids := by rw [hks]; exact List.mem_singleton.2 rfl
        have hss := T.size_mem hm
        rw [hks] at hz
        have := ih s hm (names ++ [t.name]) g true (hw.kid hm) (by rw [List.length_append, List.length_singleton]; omega) hz
        refine ⟨.mk t hsh (fun s' hs' => (by rw [hks] at hs'; rw [List.mem_singleton.1 hs']; exact this.1)), fun hg => ?_⟩
        have h2 := this.2 hg
        rw [cnt_eq, hks, cntL, cntL]
        omega
      · rw [if_neg h8] at hz
        refine ⟨.mk t hsh fun s hs' => ?_, fun _ => ?_⟩
        · obtain ⟨b, hb⟩ := nodeL_zero _ _ _ _ hz s hs'
          exact (ih s hs' names _ b (hw.kid hs') (by have := T.size_mem hs'; omega) hb).1
        · rw [cnt_eq, if_pos (by omega)]; omega

theorem small_out {t : T} {m : Int} (hw : Wf t) (hm : m < 1000000) (h : smallB t m = true) : (t.size : Int) ≤ m ∧ Shp t ∧ 1 ≤ cnt t := by
  unfold smallB fewB at h
  simp only [Bool.and_eq_true, decide_eq_true_eq] at h
  obtain ⟨⟨h1, h2⟩, h3, h4⟩ := h
  unfold rightV at h3
  by_cases hb : 100 < dep t ∨ 10000 < t.size
  · rw [if_pos hb] at h3; cases h3
  · rw [if_neg hb] at h3
    have := node_zero t [] 0 false hw (by rw [List.length_nil]; omega) h3
    exact ⟨h1, this.1, this.2 rfl⟩
theorem few_fine {l : List T} {n m : Int} (hw : ∀ t ∈ l, Wf t) (hn : n ≤ 100) (hm : m < 1000) (h : Few l n m) : Fine l := by
  obtain ⟨h1, h2⟩ := h
  have hs : ∀ t ∈ l, (t.size : Int) ≤ m ∧ Shp t ∧ 1 ≤ cnt t := fun t ht => small_out (hw t ht) (by omega) (h2 t ht)
  refine ⟨fun t ht => (hs t ht).2.1, hw, ?_⟩
  have : ∀ k : List T, (∀ t ∈ k, (t.size : Int) ≤ m) → (T.sizeL k : Int) ≤ k.length * 1000 := by
    intro k
    induction k with
    | nil => intro _; simp [T.sizeL]
    | cons x k ih =>
      intro hx
      have a := hx x List.mem_cons_self
      have b := ih fun t ht => hx t (List.mem_cons_of_mem _ ht)
      rw [T.sizeL, List.length_cons]
      omega
  have := this l fun t ht => (hs t ht).1
  omega

/-! ### references are near -/
theorem lookR_node (names : List (List UInt8)) (refs : List Rf) (x : List UInt8) (s a b : Int) (ha : 0 ≤ a ∧ a ≤ b) (hr : ∀ r ∈ refs, 0 ≤ r.node ∧ r.node ≤ b) : ∀ m, m ≤ refs.length → 0 ≤ (lookR names refs x s ⟨a, 0⟩ m).node ∧ (lookR names refs x s ⟨a, 0⟩ m).node ≤ b
  | 0, _ => ha
  | m + 1, hm => by
    rw [lookR_succ]
    by_cases h : names[m]? = some x
    · rw [if_pos h]
      have hk : refs[m]? = some (refs[m]'(by omega)) := List.getElem?_eq_getElem _
      rw [hk]
      exact hr (refs[m]'(by omega)) (List.getElem_mem _)
    · rw [if_neg h]
      exact lookR_node names refs x s a b ha hr m (by omega)
theorem refE_node (t : T) : ∀ (a b : Int) (names : List (List UInt8)) (refs : List Rf), Shp t → refs.length = names.length → 0 ≤ a → a ≤ b → (∀ r ∈ refs, 0 ≤ r.node ∧ r.node ≤ b) → 0 ≤ (refE t a names refs).node ∧ (refE t a names refs).node ≤ b := by
  induction t using T.ind with
  | h t ih =>
  intro a b names refs hs hl h0 hb hr
  rw [refE_eq]
  by_cases h8 : t.kind = 8
  · obtain ⟨s, hks⟩ := hs.one h8
    have hm : s ∈ t.kids := by rw [hks]; exact List.mem_singleton.2 rfl
    rw [if_pos h8, hks, refE1]
    exact ih s hm a b names refs (hs.kid s hm) hl h0 hb hr
  · rw [if_neg h8]
    by_cases h9 : t.kind = 9
    · rw [if_pos h9]
      exact lookR_node names refs t.name t.shift a b ⟨h0, hb⟩ hr _ (by omega)
    · rw [if_neg h9]; exact ⟨h0, hb⟩
theorem nextsL_node (l : List T) : ∀ (a b : Int) (names : List (List UInt8)) (refs : List Rf), (∀ t ∈ l, Shp t) → refs.length = names.length → 0 ≤ a → a + cntL l ≤ b → (∀ r ∈ refs, 0 ≤ r.node ∧ r.node ≤ b) → ∀ r ∈ nextsL l a names refs, 0 ≤ r.node ∧ r.node ≤ b := by
  induction l with
  | nil => intro _ _ _ _ _ _ _ _ _ r hr; cases hr
  | cons t l ih =>
    intro a b names refs hs hl h0 hb hr r hm
    rw [cntL] at hb
    rcases List.mem_cons.1 hm with e | hm
    · subst e
      exact refE_node t a b names refs (hs t List.mem_cons_self) hl h0 (by omega) hr
    · exact ih (a + cnt t) b names refs (fun s h => hs s (List.mem_cons_of_mem _ h)) hl (by omega) (by omega) hr r hm
theorem nodesE_node (t : T) : ∀ (a b : Int) (names : List (List UInt8)) (refs : List Rf), Shp t → refs.length = names.length → 0 ≤ a → a + cnt t ≤ b → (∀ r ∈ refs, 0 ≤ r.node ∧ r.node ≤ b) → ∀ x ∈ nodesE t a names refs, ∀ r ∈ x.next, 0 ≤ r.node ∧ r.node ≤ b := by
  induction t using T.ind with
  | h t ih =>
  intro a b names refs hs hl h0 hb hr x hx
  have hk := shape_kinds hs.sh
  have hL : ∀ (l : List T) (a : Int), (∀ s ∈ l, s ∈ t.kids) → 0 ≤ a → a + cntL l ≤ b → ∀ x ∈ nodesL l a names refs, ∀ r ∈ x.next, 0 ≤ r.node ∧ r.node ≤ b := by
    intro l
    induction l with
    | nil => intro _ _ _ _ n hn; cases hn
    | cons y l ihl =>
      intro a hy h0 hb n hn
      rw [nodesL] at hn
      rw [cntL] at hb
      rcases List.mem_append.1 hn with hn | hn
      · exact ih y (hy y List.mem_cons_self) a b names refs (hs.kid y (hy y List.mem_cons_self)) hl h0 (by omega) hr n hn
      · exact ihl (a + cnt y) (fun s h => hy s (List.mem_cons_of_mem _ h)) (by omega) (by omega) n hn
  have hc := cnt_eq t
  rw [nodesE_eq] at hx
  by_cases h8 : t.kind = 8
  · obtain ⟨s, hks⟩ := hs.one h8
    have hm : s ∈ t.kids := by rw [hks]; exact List.mem_singleton.2 rfl
    rw [if_pos h8, hks, nodes1] at hx
    rw [hks, cntL, cntL] at hc
    have hrf := refE_node t a b names refs hs hl h0 (by omega) hr
    exact ih s hm a b _ _ (hs.kid s hm) (by rw [List.length_append, List.length_append, hl]; rfl) h0 (by omega) (fun r h => by
      rcases List.mem_append.1 h with h | h
      · exact hr r h
      · rw [List.mem_singleton.1 h]; exact hrf) x hx
  · rw [if_neg h8] at hx
    by_cases h9 : t.kind = 9
    · rw [if_pos h9] at hx; cases hx
    · rw [if_neg h9] at hx
      rw [if_pos (by omega)] at hc
      rcases List.mem_cons.1 hx with e | hx
      · subst e
        exact nextsL_node t.kids (a + 1) b names refs hs.kid hl (by omega) (by omega) hr
      · exact hL t.kids (a + 1) (fun s h => h) (by omega) (by omega) x hx
theorem nodesL_node (l : List T) : ∀ (a b : Int), (∀ t ∈ l, Shp t) → 0 ≤ a → a + cntL l ≤ b → ∀ x ∈ nodesL l a [] [], ∀ r ∈ x.next, 0 ≤ r.node ∧ r.node ≤ b := by
  induction l with
  | nil => intro _ _ _ _ _ x hx; cases hx
  | cons t l ih =>
    intro a b hs h0 hb x hx
    rw [nodesL] at hx
    rw [cntL] at hb
    rcases List.mem_append.1 hx with hx | hx
    · exact nodesE_node t a b [] [] (hs t List.mem_cons_self) rfl h0 (by omega) (fun r h => by cases h) x hx
    · exact ih (a + cnt t) b (fun s h => hs s (List.mem_cons_of_mem _ h)) (by omega) (by omega) x hx
theorem fine_nd {l : List T} (h : Fine l) : NdOk (nodesL l 0 [] []) := by
  have hc := cntL_size l
  have hs := h.size
  refine ⟨by rw [nodesL_len l 0 [] [] h.shp]; omega, fun x hx => ?_, fun x hx r hr => ?_⟩
  · have := nodesL_bound l 0 h.shp x hx; omega
  · have := nodesL_node l 0 (cntL l) h.shp (by omega) (by omega) x hx r hr; omega

@[go_sem] theorem z_va (ob : Objs) (cs : List AV) : (AV.agg cs).view ob = mkAgg (viewL ob cs) := rfl
@[go_sem] theorem z_vl0 (ob : Objs) : viewL ob [] = [] := rfl
@[go_sem] theorem z_vl1 (ob : Objs) (c : AV) (l : List AV) : viewL ob (c :: l) = c.viewC ob :: viewL ob l := rfl
@[go_sem] theorem z_vco (ob : Objs) (o : Nat) : (AV.own o).viewC ob = (match (match oget ob o with | some (.arr sz xs _) => some (V.Data.sl sz xs) | _ => none) with | some x => .d x | none => .own o) := rfl
@[go_sem] theorem z_vcd (ob : Objs) (x : V.Data) : (AV.d x).viewC ob = .d x := rfl
@[go_sem] theorem z_nmag (cs l : List AV) : namesL (.agg cs :: l) = namesL cs ++ namesL l := rfl
@[go_sem] theorem z_rt (ρ : Nat → Option Nat) (cs : List AV) : (AV.tup cs).ren ρ = .tup (renL ρ cs) := rfl
@[go_sem] theorem z_rla (ρ : Nat → Option Nat) (cs l : List AV) : renL ρ (.agg cs :: l) = .agg (renL ρ cs) :: renL ρ l := rfl
@[go_sem] theorem z_eqa (a b : List V.Data) : eqData (.agg a) (.agg b) = eqCells a b := rfl
@[go_sem] theorem z_eq2 (k k' : IntKind) (a b c d : Int) : eqCells [.int .i64 a, .int .i64 b] [.int .i64 c, .int .i64 d] = some (decide (a = c) && (decide (b = d) && true)) := rfl
@[go_sem] theorem z_kt2 (a b : Int) : KT.ok (.many [0, 0]) (.agg [.int .i64 a, .int .i64 b]) = true := rfl

theorem wrap_small {x : Int} (h1 : -1000000 ≤ x) (h2 : x ≤ 1000000) : IntKind.wrap .i64 x = x := wrap64 (by omega) (by omega)
theorem lookR_skip (names : List (List UInt8)) (refs : List Rf) (x : List UInt8) (s : Int) (z : Rf) (m : Nat) : ∀ d, (∀ j, m ≤ j → j < m + d → names[j]? ≠ some x) → lookR names refs x s z (m + d) = lookR names refs x s z m
  | 0, _ => rfl
  | d + 1, h => by
    rw [show m + (d + 1) = (m + d) + 1 by omega, lookR_succ, if_neg (h (m + d) (by omega) (by omega))]
    exact lookR_skip names refs x s z m d fun j h1 h2 => h j h1 (by omega)
theorem find_look (names ext : List (List UInt8)) (refs : List Rf) (x : List UInt8) (s : Int) (z : Rf) (g : Int) (hg : g ≤ names.length) (hr : refs.length = names.length) : ∀ M, (∀ j, M ≤ j → j < names.length → names[j]? ≠ some x) → findE (names ++ ext) x g M = 0 →
    ∃ r ∈ refs, lookR names refs x s z names.length = ⟨r.node, r.shift + s⟩
  | 0, _, h => by cases h
  | M + 1, hj, h => by
    rw [findE_succ] at h
    by_cases hx : (names ++ ext)[M]? = some x
    · rw [if_pos hx] at h
      by_cases hm : (M : Int) < g
      · have hM : M < names.length := by omega
        rw [List.getElem?_append_left hM] at hx
        have hk : refs[M]? = some (refs[M]'(by omega)) := List.getElem?_eq_getElem _
        refine ⟨refs[M]'(by omega), List.getElem_mem _, ?_⟩
        obtain ⟨d, hd⟩ : ∃ d, names.length = (M + 1) + d := ⟨names.length - (M + 1), by omega⟩
        rw [hd, lookR_skip names refs x s z (M + 1) d fun j h1 h2 => hj j h1 (by omega), lookR_succ, if_pos hx, hk]
        rfl
      · rw [if_neg hm] at h; cases h
    · rw [if_neg hx] at h
      refine find_look names ext refs x s z g hg hr M (fun j h1 h2 => ?_) h
      by_cases e : j = M
      · subst e
        rw [List.getElem?_append_left h2] at hx
        exact hx
      · exact hj j (by omega) h2
/-- what a right node is -/
theorem nodeV_out {t : T} {names : List (List UInt8)} {g : Int} {ses : Bool} (hw : Wf t) (hs : names.length + t.size < 1000000000) (hz : nodeV t names g ses = 0) :
    shapeB t = true ∧ (t.kind = 9 → findE names t.name g names.length = 0) ∧ (t.kind = 8 → ∀ s ∈ t.kids, nodeV s (names ++ [t.name]) g true = 0) ∧ (t.kind ≤ 7 → ∀ s ∈ t.kids, ∃ b, nodeV s names names.length b = 0) := by
  rw [(node_run t names g ses hw hs).2] at hz
  unfold nodeS at hz
  by_cases h1 : shapeB t = false ∨ ses = true ∧ (t.kind = 1 ∨ t.kind = 2)
  · rw [if_pos h1] at hz; cases hz
  · rw [if_neg h1] at hz
    have hsh : shapeB t = true := by cases hb : shapeB t; exact absurd (.inl hb) h1; rfl
    refine ⟨hsh, fun h9 => ?_, fun h8 => ?_, fun h7 => ?_⟩
    · rw [if_pos h9] at hz; exact hz
    · rw [if_neg (by omega), if_pos h8] at hz
      have hkl : ∃ s, t.kids = [s] := by
        have := hsh
        unfold shapeB at this
        simp only [h8] at this
        simp at this
        exact List.length_eq_one_iff.1 (by omega)
      obtain ⟨s, hks⟩ := hkl
      rw [hks] at hz ⊢
      intro s' hs'
      rw [List.mem_singleton.1 hs']; exact hz
    · rw [if_neg (by omega), if_neg (by omega)] at hz
      exact nodeL_zero _ _ _ _ hz
/-- the reference of a right type: its first node, or one of the references that are there -/
theorem refE_in (t : T) : ∀ (names ext : List (List UInt8)) (refs : List Rf) (g a : Int) (ses : Bool), Wf t → names.length + ext.length + t.size < 1000000000 → g ≤ names.length → refs.length = names.length → nodeV t (names ++ ext) g ses = 0 →
    (1 ≤ cnt t ∧ refE t a names refs = ⟨a, 0⟩) ∨ ∃ r ∈ refs, (refE t a names refs).node = r.node := by
  induction t using T.ind with
  | h t ih =>
  intro names ext refs g a ses hw hs hg hr hz
  have hsz := T.size_eq t
  obtain ⟨hsh, o9, o8, o7⟩ := nodeV_out hw (by rw [List.length_append]; omega) hz
  have hk := shape_kinds hsh
  rw [refE_eq]
  by_cases h8 : t.kind = 8
  · have hkl : ∃ s, t.kids = [s] := by
      have := hsh
      unfold shapeB at this
      simp only [h8] at this
      simp at this
      exact List.length_eq_one_iff.1 (by omega)
    obtain ⟨s, hks⟩ := hkl
    have hm : s ∈ t.kids := by rw [hks]; exact List.mem_singleton.2 rfl
    have hss := T.size_mem hm
    have := o8 h8 s hm
    rw [List.append_assoc] at this
    have := ih s hm names (ext ++ [t.name]) refs g a true (hw.kid hm) (by rw [List.length_append, List.length_singleton]; omega) hg hr this
    rw [if_pos h8, hks, refE1, cnt_eq, hks, cntL, cntL, if_neg (by omega)]
    rcases this with ⟨h1, h2⟩ | h
    · exact .inl ⟨by omega, h2⟩
    · exact .inr h
  · rw [if_neg h8]
    by_cases h9 : t.kind = 9
    · rw [if_pos h9]
      obtain ⟨r, h1, h2⟩ := find_look names ext refs t.name t.shift ⟨a, 0⟩ g hg hr _ (fun j h1 h2 => by rw [List.length_append] at h1; omega) (o9 h9)
      exact .inr ⟨r, h1, by rw [h2]⟩
    · rw [if_neg h9]
      exact .inl ⟨by rw [cnt_eq, if_pos (by omega)]; omega, rfl⟩
theorem refE_lt {t : T} {names : List (List UInt8)} {refs : List Rf} {g a b : Int} {ses : Bool} (hw : Wf t) (hs : names.length + t.size < 1000000000) (hg : g ≤ names.length) (hr : refs.length = names.length) (hz : nodeV t names g ses = 0)
    (h0 : 0 ≤ a) (hb : a + cnt t ≤ b) (hrf : ∀ r ∈ refs, 0 ≤ r.node ∧ r.node < b) : 0 ≤ (refE t a names refs).node ∧ (refE t a names refs).node < b := by
  rcases refE_in t names [] refs g a ses hw (by rw [List.length_nil]; omega) hg hr (by rw [List.append_nil]; exact hz) with ⟨h1, h2⟩ | ⟨r, h1, h2⟩
  · rw [h2]; dsimp only; omega
  · rw [h2]; exact hrf r h1
theorem nodesE_lt (t : T) : ∀ (names : List (List UInt8)) (refs : List Rf) (g a b : Int) (ses : Bool), Wf t → names.length + t.size < 1000000000 → g ≤ names.length → refs.length = names.length → nodeV t names g ses = 0 →
    0 ≤ a → a + cnt t ≤ b → (∀ r ∈ refs, 0 ≤ r.node ∧ r.node < b) → ∀ x ∈ nodesE t a names refs, ∀ r ∈ x.next, 0 ≤ r.node ∧ r.node < b := by
  induction t using T.ind with
  | h t ih =>
  intro names refs g a b ses hw hs hg hr hz h0 hb hrf x hx
  have hsz := T.size_eq t
  obtain ⟨hsh, o9, o8, o7⟩ := nodeV_out hw hs hz
  have hk := shape_kinds hsh
  have hc := cnt_eq t
  rw [nodesE_eq] at hx
  by_cases h8 : t.kind = 8
  · have hkl : ∃ s, t.kids = [s] := by
      have := hsh
      unfold shapeB at this
      simp only [h8] at this
      simp at this
      exact List.length_eq_one_iff.1 (by omega)
    obtain ⟨s, hks⟩ := hkl
    have hm : s ∈ t.kids := by rw [hks]; exact List.mem_singleton.2 rfl
    have hss := T.size_mem hm
    rw [if_pos h8, hks, nodes1] at hx
    rw [hks, cntL, cntL, if_neg (by omega)] at hc
    have hrt := refE_lt hw hs hg hr hz h0 hb hrf
    exact ih s hm (names ++ [t.name]) _ g a b true (hw.kid hm) (by rw [List.length_append, List.length_singleton]; omega) (by rw [List.length_append, List.length_singleton]; omega)
      (by rw [List.length_append, List.length_append, hr]; rfl) (o8 h8 s hm) h0 (by omega) (fun r h => by
        rcases List.mem_append.1 h with h | h
        · exact hrf r h
        · rw [List.mem_singleton.1 h]; exact hrt) x hx
  · rw [if_neg h8] at hx
    by_cases h9 : t.kind = 9
    · rw [if_pos h9] at hx; cases hx
    · rw [if_neg h9] at hx
      rw [if_pos (by omega)] at hc
      have o7' := o7 (by omega)
      have hN : ∀ (l : List T) (a : Int), (∀ s ∈ l, s ∈ t.kids) → 0 ≤ a → a + cntL l ≤ b → ∀ r ∈ nextsL l a names refs, 0 ≤ r.node ∧ r.node < b := by
        intro l
        induction l with
        | nil => intro _ _ _ _ r hr; cases hr
        | cons y l ihl =>
          intro a hy h0 hb r hm
          rw [cntL] at hb
          have hym := hy y List.mem_cons_self
          obtain ⟨b', hb'⟩ := o7' y hym
          rcases List.mem_cons.1 hm with e | hm
          · subst e
            exact refE_lt (hw.kid hym) (by have := T.size_mem hym; omega) (Int.le_refl _) hr hb' h0 (by omega) hrf
          · exact ihl (a + cnt y) (fun s h => hy s (List.mem_cons_of_mem _ h)) (by omega) (by omega) r hm
      have hL : ∀ (l : List T) (a : Int), (∀ s ∈ l, s ∈ t.kids) → 0 ≤ a → a + cntL l ≤ b → ∀ x ∈ nodesL l a names refs, ∀ r ∈ x.next, 0 ≤ r.node ∧ r.node < b := by
        intro l
        induction l with
        | nil => intro _ _ _ _ n hn; cases hn
        | cons y l ihl =>
          intro a hy h0 hb n hn
          rw [nodesL] at hn
          rw [cntL] at hb
          have hym := hy y List.mem_cons_self
          obtain ⟨b', hb'⟩ := o7' y hym
          rcases List.mem_append.1 hn with hn | hn
          · exact ih y hym names refs names.length a b b' (hw.kid hym) (by have := T.size_mem hym; omega) (Int.le_refl _) hr hb' h0 (by omega) hrf n hn
          · exact ihl (a + cnt y) (fun s h => hy s (List.mem_cons_of_mem _ h)) (by omega) (by omega) n hn
      rcases List.mem_cons.1 hx with e | hx
      · subst e
        exact hN t.kids (a + 1) (fun s h => h) (by omega) (by omega)
      · exact hL t.kids (a + 1) (fun s h => h) (by omega) (by omega) x hx
theorem right_node {t : T} {m : Int} (h : smallB t m = true) : nodeV t [] 0 false = 0 := by
  unfold smallB at h
  simp only [Bool.and_eq_true, decide_eq_true_eq] at h
  obtain ⟨_, h3, _⟩ := h
  unfold rightV at h3
  by_cases hb : 100 < dep t ∨ 10000 < t.size
  · rw [if_pos hb] at h3; cases h3
  · rw [if_neg hb] at h3; exact h3
/-- a right type -/
structure Rgt (t : T) : Prop where
  wf : Wf t
  sz : t.size < 1000000
  node : nodeV t [] 0 false = 0
theorem Rgt.shp {t : T} (h : Rgt t) : Shp t := (node_zero t [] 0 false h.wf (by have := h.sz; rw [List.length_nil]; omega) h.node).1
theorem Rgt.cnt {t : T} (h : Rgt t) : 1 ≤ cnt t := (node_zero t [] 0 false h.wf (by have := h.sz; rw [List.length_nil]; omega) h.node).2 rfl
theorem small_rgt {t : T} {m : Int} (hw : Wf t) (hm : m < 1000000) (h : smallB t m = true) : Rgt t := ⟨hw, by have := (small_out hw hm h).1; omega, right_node h⟩
/-- all references of a graph of right types are to its nodes -/
theorem nodesL_ltR (l : List T) : ∀ (a b : Int), (∀ t ∈ l, Rgt t) → 0 ≤ a → a + cntL l ≤ b → ∀ x ∈ nodesL l a [] [], ∀ r ∈ x.next, 0 ≤ r.node ∧ r.node < b := by
  induction l with
  | nil => intro _ _ _ _ _ x hx; cases hx
  | cons t l ih =>
    intro a b hs h0 hb x hx
    rw [nodesL] at hx
    rw [cntL] at hb
    have htm := hs t List.mem_cons_self
    have hsz := htm.sz
    rcases List.mem_append.1 hx with hx | hx
    · exact nodesE_lt t [] [] 0 a b false htm.wf (by rw [List.length_nil]; omega) (by simp) rfl htm.node h0 (by omega) (fun r h => by cases h) x hx
    · exact ih (a + cnt t) b (fun s h => hs s (List.mem_cons_of_mem _ h)) (by omega) (by omega) x hx
theorem nodesL_lt (l : List T) (m : Int) (hm : m < 1000000) (a b : Int) (hw : ∀ t ∈ l, Wf t) (hs : ∀ t ∈ l, smallB t m = true) (h0 : 0 ≤ a) (hb : a + cntL l ≤ b) : ∀ x ∈ nodesL l a [] [], ∀ r ∈ x.next, 0 ≤ r.node ∧ r.node < b :=
  nodesL_ltR l a b (fun t ht => small_rgt (hw t ht) hm (hs t ht)) h0 hb
theorem refE_topR {t : T} {a : Int} (h : Rgt t) : refE t a [] [] = ⟨a, 0⟩ := by
  have hsz := h.sz
  rcases refE_in t [] [] [] 0 a false h.wf (by rw [List.length_nil]; omega) (by simp) rfl h.node with ⟨_, h2⟩ | ⟨r, h1, _⟩
  · exact h2
  · cases h1
theorem refE_top {t : T} {m a : Int} (hw : Wf t) (hm : m < 1000000) (h : smallB t m = true) : refE t a [] [] = ⟨a, 0⟩ := refE_topR (small_rgt hw hm h)
theorem fineR {l : List T} (h : ∀ t ∈ l, Rgt t) (hs : T.sizeL l + l.length ≤ 1000000) : Fine l := ⟨fun t ht => (h t ht).shp, fun t ht => (h t ht).wf, hs⟩

theorem nodesE_shift (t : T) : ∀ (names : List (List UInt8)) (refs : List Rf) (a b : Int), Shp t → refs.length = names.length → 0 ≤ b → (∀ r ∈ refs, 0 ≤ r.shift ∧ r.shift ≤ b) → ∀ x ∈ nodesE t a names refs, ∀ r ∈ x.next, 0 ≤ r.shift ∧ r.shift ≤ b + 1000000 * t.size := by
  induction t using T.ind with
  | h t ih =>
  intro names refs a b hs hr h0 hrf x hx
  have hsz := T.size_eq t
  have hk := shape_kinds hs.sh
  rw [nodesE_eq] at hx
  by_cases h8 : t.kind = 8
  · obtain ⟨s, hks⟩ := hs.one h8
    have hm : s ∈ t.kids := by rw [hks]; exact List.mem_singleton.2 rfl
    have hss := T.size_mem hm
    rw [if_pos h8, hks, nodes1] at hx
    have hrt := refE_shift t a b names refs hs hr h0 hrf
    intro r hrx
    have := ih s hm (names ++ [t.name]) _ a (b + 1000000) (hs.kid s hm) (by rw [List.length_append, List.length_append, hr]; rfl) (by omega) (fun r h => by
        rcases List.mem_append.1 h with h | h
        · have := hrf r h; omega
        · rw [List.mem_singleton.1 h]; exact hrt) x hx r hrx
    omega
  · rw [if_neg h8] at hx
    by_cases h9 : t.kind = 9
    · rw [if_pos h9] at hx; cases hx
    · rw [if_neg h9] at hx
      have hN : ∀ (l : List T) (a : Int), (∀ s ∈ l, s ∈ t.kids) → ∀ r ∈ nextsL l a names refs, 0 ≤ r.shift ∧ r.shift ≤ b + 1000000 * t.size := by
        intro l
        induction l with
        | nil => intro _ _ r hr; cases hr
        | cons y l ihl =>
          intro a hy r hm
          have hym := hy y List.mem_cons_self
          rcases List.mem_cons.1 hm with e | hm
          · subst e
            have := refE_shift y a b names refs (hs.kid y hym) hr h0 hrf
            have := T.size_mem hym
            have := T.size_eq y
            omega
          · exact ihl (a + cnt y) (fun s h => hy s (List.mem_cons_of_mem _ h)) r hm
      have hL : ∀ (l : List T) (a : Int), (∀ s ∈ l, s ∈ t.kids) → ∀ x ∈ nodesL l a names refs, ∀ r ∈ x.next, 0 ≤ r.shift ∧ r.shift ≤ b + 1000000 * t.size := by
        intro l
        induction l with
        | nil => intro _ _ n hn; cases hn
        | cons y l ihl =>
          intro a hy n hn
          rw [nodesL] at hn
          have hym := hy y List.mem_cons_self
          rcases List.mem_append.1 hn with hn | hn
          · intro r hrx
            have := ih y hym names refs a b (hs.kid y hym) hr h0 hrf n hn r hrx
            have := T.size_mem hym
            omega
          · exact ihl (a + cnt y) (fun s h => hy s (List.mem_cons_of_mem _ h)) n hn
      rcases List.mem_cons.1 hx with e | hx
      · subst e
        exact hN t.kids (a + 1) (fun s h => h)
      · exact hL t.kids (a + 1) (fun s h => h) x hx
theorem nodesL_shift (l : List T) : ∀ (a : Int), (∀ t ∈ l, Shp t) → ∀ x ∈ nodesL l a [] [], ∀ r ∈ x.next, 0 ≤ r.shift ∧ r.shift ≤ 1000000 * T.sizeL l := by
  induction l with
  | nil => intro _ _ x hx; cases hx
  | cons t l ih =>
    intro a hs x hx r hr
    rw [nodesL] at hx
    rw [T.sizeL]
    rcases List.mem_append.1 hx with hx | hx
    · have := nodesE_shift t [] [] a 0 (hs t List.mem_cons_self) rfl (Int.le_refl _) (fun r h => by cases h) x hx r hr; omega
    · have := ih (a + cnt t) (fun s h => hs s (List.mem_cons_of_mem _ h)) x hx r hr; omega
@[go_sem] theorem y_fld (x : V.Data) : (AV.d x).flat = x.flat := rfl
@[go_sem] theorem y_flt (cs : List AV) : (AV.tup cs).flat = AV.flat.flatL cs := rfl
@[go_sem] theorem y_fla (cs : List AV) : (AV.agg cs).flat = AV.flat.flatL cs := rfl
@[go_sem] theorem y_flc (f : Nat) (cs : List AV) : (AV.clos f cs).flat = AV.flat.flatL cs := rfl
@[go_sem] theorem y_flo (o : Nat) : (AV.own o).flat = true := rfl
@[go_sem] theorem y_flp (o f : Nat) : (AV.ptr o f).flat = true := rfl
@[go_sem] theorem y_flm (o : Nat) : (AV.mref o).flat = true := rfl
@[go_sem] theorem y_fll0 : AV.flat.flatL [] = true := rfl
@[go_sem] theorem y_fll1 (x : AV) (l : List AV) : AV.flat.flatL (x :: l) = (x.flat && AV.flat.flatL l) := rfl
@[go_sem] theorem y_flob0 : flatObs [] = true := rfl
@[go_sem] theorem y_flob1 (o : Nat) (x : AObj) (l : Objs) : flatObs ((o, some x) :: l) = (x.flat && flatObs l) := rfl
@[go_sem] theorem y_flobb (cs : List AV) : (AObj.box cs).flat = AV.flat.flatL cs := rfl
@[go_sem] theorem z_rlt (ρ : Nat → Option Nat) (x : List AV) (l : List AV) : renL ρ (.tup x :: l) = .tup (renL ρ x) :: renL ρ l := rfl
@[go_sem] theorem y_nilc (o f : Nat) : nilchkR (.ptr o f) = some ⟨.ptr o f, [], []⟩ := nr rfl
@[go_sem] theorem y_clc (f : Nat) (l : List AV) : (AV.clos f l).cells = [.clos f l] := rfl
@[go_sem] theorem y_cl1 : (AV.d .nptr).cells = [.d .nptr] := rfl
@[go_sem] theorem y_cl2 : (AV.d .nmap).cells = [.d .nmap] := rfl
@[go_sem] theorem y_cl3 : (AV.d .nfunc).cells = [.d .nfunc] := rfl
@[go_sem] theorem y_cl4 : (AV.d .niface).cells = [.d .niface] := rfl
@[go_sem] theorem y_adc (f : Nat) (c l : List AV) : allD (.clos f c :: l) = none := rfl
@[go_sem] theorem y_mks (sz bytes base : Nat) (z : V.Data) (k k' : IntKind) (n : Nat) : mksliceR sz bytes base z (.d (.int k (n : Int))) (.d (.int k' (n : Int))) =
    need (decide (n * bytes ≤ 140737488355328) && decide (z.cells.length = sz)) (some ⟨.own base, [(base, some (.arr sz (List.replicate n z) true))], []⟩) := by
  have e : (decide ((n : Int) = (n : Int) ∧ 0 ≤ (n : Int) ∧ (n : Int) * (bytes : Int) ≤ 140737488355328 ∧ z.cells.length = sz)) = (decide (n * bytes ≤ 140737488355328) && decide (z.cells.length = sz)) := by
    rw [← Bool.decide_and]
    refine decide_eq_decide.2 ⟨fun h => ⟨by omega, h.2.2.2⟩, fun h => ⟨rfl, by omega, by omega, h.2⟩⟩
  rw [← e]
  show need (decide ((n : Int) = (n : Int) ∧ 0 ≤ (n : Int) ∧ (n : Int) * (bytes : Int) ≤ 140737488355328 ∧ z.cells.length = sz)) (some (V.R.mk (.own base) [(base, some (.arr sz (List.replicate (n : Int).toNat z) true))] [])) = _
  rw [Int.toNat_natCast]
@[go_sem] theorem z_rln (ρ : Nat → Option Nat) (n : Nat) (l : List AV) : renL ρ (.nils n :: l) = .nils n :: renL ρ l := rfl
@[go_sem] theorem y_appXn (sz bytes base : Nat) (ob : Objs) (n : Nat) (yn : List Nat) (ys : List V.Data) : appX sz bytes base ys yn ob (.nils n) = need (decide (ys.length * bytes ≤ 140737488355328)) (some ⟨.own base, [(base, some (.arr sz ys true))], yn⟩) := nr rfl
attribute [go_sem] Option.map_none
@[go_sem] theorem y_sta (n o i off : Nat) (v : AV) (ob : Objs) (sz : Nat) (xs : List V.Data) : storeArr n o i off v ob (some (.arr sz xs true)) =
    need (!mem o (ownNamesL v.cells)) (storeElem n o i off sz xs v (shareUpd ob (ownNamesL v.cells)) xs[i]? (allSome (AV.toD ob) v.cells)) := nr rfl
@[go_sem] theorem y_ste (n o i off sz : Nat) (xs : List V.Data) (v : AV) (sh : Objs) (x : V.Data) (ds : List V.Data) : storeElem n o i off sz xs v sh (some x) (some ds) =
    need (decide (off + n ≤ x.cells.length)) (some ⟨.any, (o, some (.arr sz (xs.set i (setElem x off n ds)) true)) :: sh, o :: ownNamesL v.cells⟩) := nr rfl
@[go_sem] theorem y_sea (cs : List V.Data) (off n : Nat) (ds : List V.Data) : setElem (.agg cs) off n ds = .agg (cs.take off ++ ds ++ cs.drop (off + n)) := nr rfl
@[go_sem] theorem y_sei (k : IntKind) (m : Int) (off n : Nat) (d : V.Data) : setElem (.int k m) off n [d] = d := nr rfl
@[go_sem] theorem y_seb (b : Bool) (off n : Nat) (d : V.Data) : setElem (.bool b) off n [d] = d := nr rfl
@[go_sem] theorem y_ses (b : List UInt8) (off n : Nat) (d : V.Data) : setElem (.str b) off n [d] = d := nr rfl
/-- a loop over a list, and what follows -/
theorem obind_loop {α : Type} {keep : List Nat} {c : VC} {st : St} {I : Nat → St} {n : Nat} {e : Out × St} {f : Out × St → Option α} {r : α} (h0 : norm keep st = I 0)
    (hs : ∀ i, i < n → ∃ s, exec att RW LW c (I i) = some (.normal, s) ∧ norm keep s = I (i + 1))
    (he : exec att RW LW c (I n) = some e) (hn : e.1 ≠ .normal) (rest : f e = some r) : obind (LW keep c (norm keep st)) f = some r := by
  rw [h0]
  exact obind_mk (loop_from0 hs he hn) rest
theorem Rf.data_eq (r : Rf) : r.data = .agg [.int .i64 r.node, .int .i64 r.shift] := rfl
theorem Nd.data_eq (n : Nd) : n.data = .agg [.int .i64 n.kind, .int .i64 n.prio, .sl 1 (n.labels.map .str), .sl 2 (n.next.map Rf.data)] := rfl

end Go.Proofs.YtijfioakpngdhaaDoor
