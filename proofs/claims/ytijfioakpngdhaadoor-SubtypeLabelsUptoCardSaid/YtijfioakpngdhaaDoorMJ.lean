/- Subtyping of references: the pairs behind a pair; the walks of its parts. -/
import Derived.Test.YtijfioakpngdhaaDoorMH
import Derived.Test.YtijfioakpngdhaaDoorMI
namespace Go.Proofs.YtijfioakpngdhaaDoor
open Go.V
set_option maxRecDepth 100000
set_option linter.unusedSimpArgs false
set_option linter.unusedVariables false

/-- the pair of the references with a label, if both have it -/
def labPair (x y : Nd) (d : Int) (s : List UInt8) : Option K3 :=
  match idx? x.labels s, idx? y.labels s with
  | some i, some j => (match x.next[i]?, y.next[j]? with
    | some r, some q => some (r.node, q.node, d + r.shift - q.shift)
    | _, _ => none)
  | _, _ => none
def labPairs (x y : Nd) (d : Int) : List (List UInt8) → Option (List K3)
  | [] => some []
  | s :: l => match labPair x y d s, labPairs x y d l with
    | some p, some r => some (p :: r)
    | _, _ => none
def idxPair (x y : Nd) (d : Int) (i : Nat) (flip : Bool) : Option K3 :=
  match x.next[i]?, y.next[i]? with
  | some r, some q => some (if flip = true then (q.node, r.node, q.shift - r.shift - d) else (r.node, q.node, d + r.shift - q.shift))
  | _, _ => none
/-- the pairs that subtyping needs behind a pair -/
def needS (x y : Nd) (d : Int) : Option (List K3) :=
  if x.kind = 4 ∨ x.kind = 5 then (match idxPair x y d 0 (decide (x.kind = 4)), idxPair x y d 1 false with
    | some p, some q => some [p, q]
    | _, _ => none)
  else if x.kind = 6 then labPairs x y d y.labels
  else if x.kind = 7 then labPairs x y d x.labels
  else some []
def LocS (N : List Nd) (p : K3) (S : K3 → Prop) : Prop := ∃ x y, 0 ≤ p.1 ∧ 0 ≤ p.2.1 ∧ N[p.1.toNat]? = some x ∧ N[p.2.1.toNat]? = some y ∧ x.kind = y.kind ∧ (actB x.kind = true → x.prio + p.2.2 = y.prio) ∧ ∃ l, needS x y p.2.2 = some l ∧ ∀ q ∈ l, S q
theorem LocS.mono {N : List Nd} {p : K3} {S S' : K3 → Prop} (h : LocS N p S) (hs : ∀ q, S q → S' q) : LocS N p S' := by
  obtain ⟨x, y, h1, h2, h3, h4, h5, h6, l, h7, h8⟩ := h
  exact ⟨x, y, h1, h2, h3, h4, h5, h6, l, h7, fun q hq => hs q (h8 q hq)⟩
def SubP (N : List Nd) (p : K3) : Prop := ∃ R : K3 → Prop, (∀ q, R q → LocS N q R) ∧ R p
theorem SubP.loc {N : List Nd} {p : K3} (h : SubP N p) : LocS N p (SubP N) := by
  obtain ⟨R, h1, h2⟩ := h
  exact (h1 p h2).mono fun q hq => ⟨R, h1, hq⟩
theorem labPairs_mem {x y : Nd} {d : Int} : ∀ {l : List (List UInt8)} {r : List K3}, labPairs x y d l = some r → ∀ p, p ∈ r ↔ ∃ s ∈ l, labPair x y d s = some p
  | [], r, h, p => by injection h with h; subst h; simp
  | s :: l, r, h, p => by
    rw [labPairs] at h
    cases hs : labPair x y d s with
    | none => rw [hs] at h; cases h
    | some q =>
      cases hl : labPairs x y d l with
      | none => rw [hs, hl] at h; cases h
      | some r' =>
        rw [hs, hl] at h
        injection h with h
        subst h
        have ih := labPairs_mem hl p
        simp only [List.mem_cons]
        constructor
        · rintro (e | e)
          · exact ⟨s, .inl rfl, by rw [hs, e]⟩
          · obtain ⟨t, h1, h2⟩ := ih.1 e
            exact ⟨t, .inr h1, h2⟩
        · rintro ⟨t, e | e, h2⟩
          · rw [e, hs] at h2; injection h2 with h2; exact .inl h2.symm
          · exact .inr (ih.2 ⟨t, e, h2⟩)
theorem labPairs_some {x y : Nd} {d : Int} : ∀ {l : List (List UInt8)}, (∀ s ∈ l, ∃ p, labPair x y d s = some p) → ∃ r, labPairs x y d l = some r
  | [], _ => ⟨[], rfl⟩
  | s :: l, h => by
    obtain ⟨p, hp⟩ := h s List.mem_cons_self
    obtain ⟨r, hr⟩ := labPairs_some (l := l) fun t ht => h t (List.mem_cons_of_mem _ ht)
    exact ⟨p :: r, by rw [labPairs, hp, hr]⟩
theorem labPairs_all {x y : Nd} {d : Int} {l : List (List UInt8)} {r : List K3} (h : labPairs x y d l = some r) : ∀ s ∈ l, ∃ p, labPair x y d s = some p := by
  induction l generalizing r with
  | nil => intro s hs; cases hs
  | cons t l ih =>
    rw [labPairs] at h
    cases hs : labPair x y d t with
    | none => rw [hs] at h; cases h
    | some q =>
      cases hl : labPairs x y d l with
      | none => rw [hs, hl] at h; cases h
      | some r' =>
        intro s hs'
        rcases List.mem_cons.1 hs' with e | e
        · exact ⟨q, by rw [e]; exact hs⟩
        · exact ih hl s e

/-! ### walks -/
theorem kind_runH (N : List Nd) (r : Rf) (x : Nd) (h0 : 0 ≤ r.node) (hx : N[r.node.toNat]? = some x) : RW 59 [.d (.agg [.sl 4 (N.map Nd.data)]), .d r.data] [] = some (.d (.int .i64 x.kind), []) := by
  have d0 : decide (0 ≤ r.node) = true := decide_eq_true h0
  refine runW_fn rfl rfl ?_
  unfold runFn c59
  rw [Rf.data_eq]
  simp only [go_sem, d0, hx, Nd.data_eq]
theorem label_runH (N : List Nd) (r : Rf) (x : Nd) (s : List UInt8) (i : Nat) (rf : Rf) (h0 : 0 ≤ r.node) (hx : N[r.node.toNat]? = some x) (hs : idx? x.labels s = some i) (hi : x.next[i]? = some rf) (hl : x.next.length < 1000000000) (hl2 : x.labels.length < 1000000000) :
    RW 74 [.d (.agg [.sl 4 (N.map Nd.data)]), .d r.data, .d (.str s)] [] = some (.tup [.d (upRf rf r.shift).data, .d (.bool true)], []) := by
  have h1 := index_run x.labels s hl2
  have h2 := next_runH N r x i rf h0 hx hi hl
  have d0 : decide (0 ≤ r.node) = true := decide_eq_true h0
  unfold idxI at h1
  rw [hs] at h1
  dsimp only at h1
  generalize upRf rf r.shift = q at h2 ⊢
  rw [Rf.data_eq, Rf.data_eq] at h2 ⊢
  refine runW_fn rfl rfl ?_
  unfold runFn c74
  simp only [go_sem, d0, hx, Nd.data_eq, h1, h2]
  show _ = _
  kernel_rfl
theorem label_runN (N : List Nd) (r : Rf) (x : Nd) (s : List UInt8) (h0 : 0 ≤ r.node) (hx : N[r.node.toNat]? = some x) (hs : idx? x.labels s = none) (hl2 : x.labels.length < 1000000000) :
    RW 74 [.d (.agg [.sl 4 (N.map Nd.data)]), .d r.data, .d (.str s)] [] = some (.tup [.d (.agg [.int .i64 0, .int .i64 0]), .d (.bool false)], []) := by
  have h1 := index_run x.labels s hl2
  have h2 := next_runN N r x (-1) h0 hx (.inl (by decide))
  have d0 : decide (0 ≤ r.node) = true := decide_eq_true h0
  unfold idxI at h1
  rw [hs] at h1
  dsimp only at h1
  rw [Rf.data_eq] at h2 ⊢
  refine runW_fn rfl rfl ?_
  unfold runFn c74
  simp only [go_sem, d0, hx, Nd.data_eq, h1, h2]
  show _ = _
  kernel_rfl
def suO (N : List Nd) (L : List K3) : Objs := [(0, some (.box [.d (.sl 4 (N.map Nd.data)), .mref 1])), (1, some (.map (esOf L)))]
theorem down_run {N : List Nd} {L L' : List K3} {u v : Rf} {r : Bool} (h : RW 45 [.ptr 0 0, .d v.data, .d u.data] (suO N L) = some (.d (.bool r), suO N L')) :
    RW 61 [.ptr 0 0, .d u.data, .d v.data] (suO N L) = some (.d (.bool r), suO N L') := by
  rw [Rf.data_eq, Rf.data_eq] at h ⊢
  unfold suO at h ⊢
  refine runW_fn rfl rfl ?_
  unfold runFn c61
  simp only [go_sem, h]
  show _ = _
  kernel_rfl
theorem rnext_sub {N : List Nd} {L L' : List K3} {a b u v : Rf} {i k : Int} {r : Bool} (h1 : RW 72 [.d (.agg [.sl 4 (N.map Nd.data)]), .d a.data, .d (.int .i64 i)] [] = some (.tup [.d u.data, .d (.bool true)], []))
    (h2 : RW 72 [.d (.agg [.sl 4 (N.map Nd.data)]), .d b.data, .d (.int .i64 k)] [] = some (.tup [.d v.data, .d (.bool true)], [])) (h : RW 45 [.ptr 0 0, .d u.data, .d v.data] (suO N L) = some (.d (.bool r), suO N L')) :
    RW 60 [.ptr 0 0, .d a.data, .d b.data, .d (.int .i64 i), .d (.int .i64 k), .clos 32813 [.ptr 0 0]] (suO N L) = some (.d (.bool r), suO N L') := by
  rw [Rf.data_eq, Rf.data_eq] at h1 h2 h ⊢
  unfold suO at h ⊢
  refine runW_fn rfl rfl ?_
  unfold runFn c60
  simp only [go_sem, h1, h2, h]
  show _ = _
  kernel_rfl
theorem rnext_down {N : List Nd} {L L' : List K3} {a b u v : Rf} {i k : Int} {r : Bool} (h1 : RW 72 [.d (.agg [.sl 4 (N.map Nd.data)]), .d a.data, .d (.int .i64 i)] [] = some (.tup [.d u.data, .d (.bool true)], []))
    (h2 : RW 72 [.d (.agg [.sl 4 (N.map Nd.data)]), .d b.data, .d (.int .i64 k)] [] = some (.tup [.d v.data, .d (.bool true)], [])) (h' : RW 45 [.ptr 0 0, .d v.data, .d u.data] (suO N L) = some (.d (.bool r), suO N L')) :
    RW 60 [.ptr 0 0, .d a.data, .d b.data, .d (.int .i64 i), .d (.int .i64 k), .clos 32829 [.ptr 0 0]] (suO N L) = some (.d (.bool r), suO N L') := by
  have h := down_run h'
  rw [Rf.data_eq, Rf.data_eq] at h1 h2 h ⊢
  unfold suO at h ⊢
  refine runW_fn rfl rfl ?_
  unfold runFn c60
  simp only [go_sem, h1, h2, h]
  show _ = _
  kernel_rfl
end Go.Proofs.YtijfioakpngdhaaDoor

namespace Go.Proofs.YtijfioakpngdhaaDoor
open Go.V
set_option maxRecDepth 100000
set_option linter.unusedSimpArgs false
set_option linter.unusedVariables false

def labE (x : Nd) (a : Rf) (s : List UInt8) : Rf × Bool := match idx? x.labels s with
  | some i => (match x.next[i]? with | some r => (⟨r.node, r.shift + a.shift⟩, true) | none => (⟨0, 0⟩, false))
  | none => (⟨0, 0⟩, false)
theorem labE_true {x : Nd} {a : Rf} {s : List UInt8} {u : Rf} (h : labE x a s = (u, true)) : ∃ i r, idx? x.labels s = some i ∧ x.next[i]? = some r ∧ u = ⟨r.node, r.shift + a.shift⟩ := by
  unfold labE at h
  cases hi : idx? x.labels s with
  | none => rw [hi] at h; injection h with _ h; cases h
  | some i =>
    rw [hi] at h
    dsimp only at h
    cases hr : x.next[i]? with
    | none => rw [hr] at h; injection h with _ h; cases h
    | some r => rw [hr] at h; injection h with h _; exact ⟨i, r, rfl, hr, h.symm⟩
theorem labE_false {x : Nd} {a : Rf} {s : List UInt8} {u : Rf} (h : labE x a s = (u, false)) : (∀ i, idx? x.labels s = some i → x.next[i]? = none) ∧ u = ⟨0, 0⟩ := by
  unfold labE at h
  cases hi : idx? x.labels s with
  | none => rw [hi] at h; injection h with h _; exact ⟨fun i h => (by cases h), h.symm⟩
  | some i =>
    rw [hi] at h
    dsimp only at h
    cases hr : x.next[i]? with
    | none => rw [hr] at h; injection h with h _; exact ⟨fun j hj => by injection hj with hj; subst hj; exact hr, h.symm⟩
    | some r => rw [hr] at h; injection h with _ h; cases h
theorem label_runE {N : List Nd} {B : Int} (hG : GOk N B) (a : Rf) (x : Nd) (s : List UInt8) (h0 : 0 ≤ a.node) (hx : N[a.node.toNat]? = some x) (hsa : -2000000000000000000 ≤ a.shift ∧ a.shift ≤ 2000000000000000000) :
    RW 74 [.d (.agg [.sl 4 (N.map Nd.data)]), .d a.data, .d (.str s)] [] = some (.tup [.d (labE x a s).1.data, .d (.bool (labE x a s).2)], []) := by
  have hxm := List.mem_of_getElem? hx
  have hl := hG.nd.lists x hxm
  have hsm := hG.small
  cases hi : idx? x.labels s with
  | none =>
    have := label_runN N a x s h0 hx hi (by omega)
    unfold labE
    rw [hi]
    exact this
  | some i =>
    have hlt : i < x.next.length := by
      have h1 := (List.getElem?_eq_some_iff.1 (idx_get hi)).1
      have hns := hG.ns x hxm
      have h2 := hns.low
      by_cases h3 : x.kind ≤ 3
      · rw [(hns.leaf h3).2.1] at h1; exact absurd h1 (Nat.not_lt_zero _)
      · by_cases h4 : x.kind = 4 ∨ x.kind = 5
        · rw [(hns.send h4).1] at h1; exact absurd h1 (Nat.not_lt_zero _)
        · have := (hns.sel (by omega)).2; omega
    have hr : x.next[i]? = some x.next[i] := List.getElem?_eq_getElem hlt
    have hrm : x.next[i] ∈ x.next := List.getElem_mem hlt
    generalize x.next[i] = rf at hr hrm
    have hrs := hG.shifts x hxm rf hrm
    have := label_runH N a x s i rf h0 hx hi hr (by omega) (by omega)
    unfold upRf at this
    rw [wrap64 (by omega) (by omega)] at this
    unfold labE
    rw [hi]
    dsimp only
    rw [hr]
    exact this

def SuPost (N : List Nd) (L : List K3) (a b : Rf) (r : Bool) (M : List K3) : Prop :=
  (r = true → key3 false a b ∈ L ++ M ∧ ∀ p ∈ M, LocS N p (· ∈ L ++ M)) ∧ (SubP N (key3 false a b) → r = true)
def SuRuns (N : List Nd) (L : List K3) (a b : Rf) : Prop := ∃ r M, RW 45 [.ptr 0 0, .d a.data, .d b.data] (suO N L) = some (.d (.bool r), suO N (L ++ M)) ∧ SuPost N L a b r M
def bxF (r : Rf) : AObj := .box [.d (.int .i64 r.node), .d (.int .i64 r.shift)]
def suI (N : List Nd) (a b : Rf) (lb : List (List UInt8)) (L : List K3) (i : Nat) : St := ⟨[(0, .ptr 0 0), (6, .ptr 2 0), (7, .ptr 3 0), (24, .d (.sl 1 (lb.map .str))), (25, .d (.int .i64 lb.length)), (26, .d (.int .i64 i))],
  suO N L ++ [(2, some (bxF a)), (3, some (bxF b))], 4, 2, false⟩
/-- the pairs of the first labels are there -/
def BehL (a b : Rf) (x y : Nd) (lb : List (List UInt8)) (i : Nat) (S : List K3) : Prop := ∀ (j : Nat) (s : List UInt8), j < i → lb[j]? = some s → ∃ p, labPair x y (a.shift - b.shift) s = some p ∧ p ∈ S
theorem BehL.mono {a b : Rf} {x y : Nd} {lb : List (List UInt8)} {i : Nat} {S S' : List K3} (h : BehL a b x y lb i S) (hs : ∀ p ∈ S, p ∈ S') : BehL a b x y lb i S' := fun j s hj hr => by
  obtain ⟨p, h1, h2⟩ := h j s hj hr
  exact ⟨p, h1, hs _ h2⟩
def SuInv (N : List Nd) (a b : Rf) (x y : Nd) (lb : List (List UInt8)) (L : List K3) (i : Nat) (s : St) : Prop := ∃ M, s = suI N a b lb (L ++ M) i ∧ (∀ p ∈ M, LocS N p (· ∈ L ++ M)) ∧ BehL a b x y lb i (L ++ M)
def SuQ (N : List Nd) (a b : Rf) (x y : Nd) (lb : List (List UInt8)) (L : List K3) (e : Out × St) : Prop :=
  (∃ M fr nx, e = (.exit 0, ⟨fr, (suI N a b lb (L ++ M) 0).ob, nx, 2, false⟩) ∧ (∀ p ∈ M, LocS N p (· ∈ L ++ M)) ∧ BehL a b x y lb lb.length (L ++ M)) ∨
  (∃ M fr ob nx, e = (.ret, ⟨fr, ob, nx, 2, false⟩) ∧ fget fr 8 = .d (.bool false) ∧ fin1 ⟨fr, ob, nx, 2, false⟩ [.d (.bool false)] = some (.d (.bool false), suO N (L ++ M)) ∧
    ∃ s ∈ lb, ∀ p, labPair x y (a.shift - b.shift) s = some p → ¬ SubP N p)

theorem su_step (N : List Nd) (B : Int) (hG : GOk N B) (a b : Rf) (x y : Nd) (lb : List (List UInt8)) (L : List K3) (ha : 0 ≤ a.node) (hb : 0 ≤ b.node) (hx : N[a.node.toNat]? = some x) (hy : N[b.node.toNat]? = some y)
    (hsa : -2000000000000000000 ≤ a.shift ∧ a.shift ≤ 2000000000000000000) (hsb : -2000000000000000000 ≤ b.shift ∧ b.shift ≤ 2000000000000000000) (hlb : lb.length < 1000000000)
    (rec : ∀ (M : List K3) (r q : Rf), r ∈ x.next → q ∈ y.next → SuRuns N (L ++ M) ⟨r.node, r.shift + a.shift⟩ ⟨q.node, q.shift + b.shift⟩) (i : Nat) (s : St) (hi : i < lb.length) (hI : SuInv N a b x y lb L i s) :
    (∃ s', exec att RW LW c62_l0 s = some (.normal, s') ∧ SuInv N a b x y lb L (i + 1) (norm [0, 6, 7, 24, 25, 26] s')) ∨ (∃ e, exec att RW LW c62_l0 s = some e ∧ e.1 ≠ .normal ∧ SuQ N a b x y lb L e) := by
  obtain ⟨M, rfl, hM, hBe⟩ := hI
  have hi' : (i : Int) < lb.length := by omega
  have hk : lb[i]? = some lb[i] := List.getElem?_eq_getElem hi
  have hlm : lb[i] ∈ lb := List.getElem_mem hi
  generalize lb[i] = t at hk hlm
  have h1 := label_runE hG a x t ha hx hsa
  have h2 := label_runE hG b y t hb hy hsb
  rw [Rf.data_eq, Rf.data_eq] at h1 h2
  have w5 : IntKind.wrap .i64 ((i : Int) + 1) = ((i + 1 : Nat) : Int) := by rw [wrap64 (by omega) (by omega)]; omega
  cases hu : labE x a t with
  | mk u ok =>
  cases hv : labE y b t with
  | mk v is =>
  rw [hu] at h1
  rw [hv] at h2
  dsimp only at h1 h2
  cases ok with
  | false =>
    refine .inr ⟨?e1, ?g1_1, ?g2_1, .inr ⟨M, ?fr_1, ?ob_1, ?nx_1, ?g3_1, ?gf_1, ?g4_1, t, hlm, ?g5_1⟩⟩
    case g1_1 =>
      unfold c62_l0 suI suO bxF
      simp only [go_sem, hi', hk, h1, h2]
      rfl
    case g2_1 => intro h; cases h
    case g3_1 => rfl
    case gf_1 => rfl
    case g4_1 =>
      unfold suO
      show _ = _
      kernel_rfl
    case g5_1 =>
      intro p hp
      have := (labE_false hu).1
      unfold labPair at hp
      cases hix : idx? x.labels t with
      | none => rw [hix] at hp; cases hp
      | some k =>
        rw [hix] at hp
        cases hiy : idx? y.labels t with
        | none => rw [hiy] at hp; cases hp
        | some m =>
          rw [hiy] at hp
          dsimp only at hp
          rw [this k hix] at hp
          cases hp
  | true =>
  obtain ⟨ix, r, q1, q2, q3⟩ := labE_true hu
  cases is with
  | false =>
    refine .inr ⟨?e2, ?g1_2, ?g2_2, .inr ⟨M, ?fr_2, ?ob_2, ?nx_2, ?g3_2, ?gf_2, ?g4_2, t, hlm, ?g5_2⟩⟩
    case g1_2 =>
      unfold c62_l0 suI suO bxF
      simp only [go_sem, hi', hk, h1, h2]
      rfl
    case g2_2 => intro h; cases h
    case g3_2 => rfl
    case gf_2 => rfl
    case g4_2 =>
      unfold suO
      show _ = _
      kernel_rfl
    case g5_2 =>
      intro p hp
      have := (labE_false hv).1
      unfold labPair at hp
      rw [q1] at hp
      cases hiy : idx? y.labels t with
      | none => rw [hiy] at hp; cases hp
      | some m =>
        rw [hiy] at hp
        dsimp only at hp
        rw [q2, this m hiy] at hp
        cases hp
  | true =>
  obtain ⟨iy, q, q4, q5, q6⟩ := labE_true hv
  have hpair : labPair x y (a.shift - b.shift) t = some (r.node, q.node, (a.shift - b.shift) + r.shift - q.shift) := by
    unfold labPair
    rw [q1, q4]
    dsimp only
    rw [q2, q5]
  obtain ⟨res, M', hr, hp1, hp2⟩ := rec M r q (List.mem_of_getElem? q2) (List.mem_of_getElem? q5)
  have hkk : key3 false ⟨r.node, r.shift + a.shift⟩ ⟨q.node, q.shift + b.shift⟩ = (r.node, q.node, (a.shift - b.shift) + r.shift - q.shift) := by
    unfold key3 ndf
    rw [if_neg (by decide)]
    dsimp only
    rw [show r.shift + a.shift - (q.shift + b.shift) = a.shift - b.shift + r.shift - q.shift by omega]
  rw [hkk] at hp1 hp2
  rw [List.append_assoc] at hr hp1
  rw [← q3, ← q6] at hr
  rw [Rf.data_eq, Rf.data_eq] at hr
  unfold suO at hr
  cases res with
  | true =>
    refine .inl ⟨?s3, ?g1_3, M ++ M', ?g2_3, ?g3_3, ?g4_3⟩
    case g1_3 =>
      unfold c62_l0 suI suO bxF
      simp only [go_sem, hi', hk, h1, h2, hr, w5]
      rfl
    case g2_3 =>
      unfold suI suO bxF
      show _ = _
      kernel_rfl
    case g3_3 =>
      intro p hp
      rcases List.mem_append.1 hp with hp | hp
      · exact (hM p hp).mono fun z hz => by rw [← List.append_assoc]; exact List.mem_append.2 (.inl hz)
      · exact (hp1 rfl).2 p hp
    case g4_3 =>
      intro j s hj hs
      by_cases e : j = i
      · subst e
        rw [hk] at hs
        injection hs with hs
        subst hs
        exact ⟨_, hpair, (hp1 rfl).1⟩
      · exact (hBe.mono fun p hp => by rw [← List.append_assoc]; exact List.mem_append.2 (.inl hp)) j s (by omega) hs
  | false =>
    refine .inr ⟨?e4, ?g1_4, ?g2_4, .inr ⟨M ++ M', ?fr_4, ?ob_4, ?nx_4, ?g3_4, ?gf_4, ?g4_4, t, hlm, ?g5_4⟩⟩
    case g1_4 =>
      unfold c62_l0 suI suO bxF
      simp only [go_sem, hi', hk, h1, h2, hr]
      rfl
    case g2_4 => intro h; cases h
    case g3_4 => rfl
    case gf_4 => rfl
    case g4_4 =>
      unfold suO
      show _ = _
      kernel_rfl
    case g5_4 =>
      intro p hp hS
      rw [hpair] at hp
      injection hp with hp
      subst hp
      exact absurd (hp2 hS) (by decide)
theorem su_loop (N : List Nd) (B : Int) (hG : GOk N B) (a b : Rf) (x y : Nd) (lb : List (List UInt8)) (L : List K3) (ha : 0 ≤ a.node) (hb : 0 ≤ b.node) (hx : N[a.node.toNat]? = some x) (hy : N[b.node.toNat]? = some y)
    (hsa : -2000000000000000000 ≤ a.shift ∧ a.shift ≤ 2000000000000000000) (hsb : -2000000000000000000 ≤ b.shift ∧ b.shift ≤ 2000000000000000000) (hlb : lb.length < 1000000000)
    (rec : ∀ (M : List K3) (r q : Rf), r ∈ x.next → q ∈ y.next → SuRuns N (L ++ M) ⟨r.node, r.shift + a.shift⟩ ⟨q.node, q.shift + b.shift⟩) :
    ∃ e, LW [0, 6, 7, 24, 25, 26] c62_l0 (suI N a b lb L 0) = some e ∧ SuQ N a b x y lb L e := by
  refine loop_inv (Inv := SuInv N a b x y lb L) (n := lb.length) (fun i s hi hI => su_step N B hG a b x y lb L ha hb hx hy hsa hsb hlb rec i s hi hI) (fun s hI => ?_) lb.length 0 _ (by omega) ⟨[], by rw [List.append_nil], (fun p hp => by cases hp), fun j r hj => by omega⟩
  obtain ⟨M, rfl, hM, hBe⟩ := hI
  refine ⟨?e, ?g1, ?g2, .inl ⟨M, ?fr, ?nx, ?g3, hM, hBe⟩⟩
  case g1 =>
    unfold c62_l0 suI suO bxF
    simp only [go_sem]
    rfl
  case g2 => intro h; cases h
  case g3 =>
    unfold suI suO bxF
    rfl
/-- what the walk over labels tells -/
theorem slabels_run (N : List Nd) (B : Int) (hG : GOk N B) (o a b : Rf) (x y z : Nd) (L : List K3) (ho : 0 ≤ o.node) (hz : N[o.node.toNat]? = some z) (ha : 0 ≤ a.node) (hb : 0 ≤ b.node) (hx : N[a.node.toNat]? = some x) (hy : N[b.node.toNat]? = some y)
    (hsa : -2000000000000000000 ≤ a.shift ∧ a.shift ≤ 2000000000000000000) (hsb : -2000000000000000000 ≤ b.shift ∧ b.shift ≤ 2000000000000000000)
    (rec : ∀ (M : List K3) (r q : Rf), r ∈ x.next → q ∈ y.next → SuRuns N (L ++ M) ⟨r.node, r.shift + a.shift⟩ ⟨q.node, q.shift + b.shift⟩) :
    ∃ r M, RW 62 [.ptr 0 0, .d o.data, .d a.data, .d b.data] (suO N L) = some (.d (.bool r), suO N (L ++ M)) ∧
      (r = true → (∀ p ∈ M, LocS N p (· ∈ L ++ M)) ∧ ∀ s ∈ z.labels, ∃ p, labPair x y (a.shift - b.shift) s = some p ∧ p ∈ L ++ M) ∧ ((∀ s ∈ z.labels, ∃ p, labPair x y (a.shift - b.shift) s = some p ∧ SubP N p) → r = true) := by
  have hzm := List.mem_of_getElem? hz
  have hlz := hG.nd.lists z hzm
  have hsm := hG.small
  have d0 : decide (0 ≤ o.node) = true := decide_eq_true ho
  obtain ⟨e, hl, hq⟩ := su_loop N B hG a b x y z.labels L ha hb hx hy hsa hsb (by omega) rec
  rcases hq with ⟨M, fr, nx, rfl, h1, h2⟩ | ⟨M, fr, ob, nx, rfl, h1, h2, s, hs, h3⟩
  · refine ⟨true, M, ?_, fun _ => ⟨h1, fun s hs => ?_⟩, fun _ => rfl⟩
    · unfold suO
      refine runW_fn rfl rfl ?_
      unfold runFn c62
      rw [Rf.data_eq, Rf.data_eq, Rf.data_eq]
      simp only [go_sem, d0, hz, Nd.data_eq]
      refine obind_mk (Eq.trans (by kernel_rfl) hl) ?_
      unfold suI suO bxF
      simp only [go_sem]
      show _ = _
      kernel_rfl
    · obtain ⟨j, hj⟩ := List.getElem?_of_mem hs
      exact h2 j s (List.getElem?_eq_some_iff.1 hj).1 hj
  · refine ⟨false, M, ?_, (fun h => by cases h), fun hall => ?_⟩
    · unfold suO
      refine runW_fn rfl rfl ?_
      unfold runFn c62
      rw [Rf.data_eq, Rf.data_eq, Rf.data_eq]
      simp only [go_sem, d0, hz, Nd.data_eq]
      refine obind_mk (Eq.trans (by kernel_rfl) hl) ?_
      unfold suO at h2
      simp only [go_sem, h1]
      exact h2
    · obtain ⟨p, hp, hS⟩ := hall s hs
      exact absurd hS (h3 p hp)
end Go.Proofs.YtijfioakpngdhaaDoor

namespace Go.Proofs.YtijfioakpngdhaaDoor
open Go.V
set_option maxRecDepth 100000
set_option linter.unusedSimpArgs false
set_option linter.unusedVariables false

theorem key3_eq (a b : Rf) : key3 false a b = (a.node, b.node, a.shift - b.shift) := by unfold key3 ndf; rw [if_neg (by decide)]
theorem nxt_run {N : List Nd} {B : Int} (hG : GOk N B) (a : Rf) (x : Nd) (i : Nat) (r : Rf) (ha : 0 ≤ a.node) (hx : N[a.node.toNat]? = some x) (hr : x.next[i]? = some r) (hsa : -2000000000000000000 ≤ a.shift ∧ a.shift ≤ 2000000000000000000) :
    RW 72 [.d (.agg [.sl 4 (N.map Nd.data)]), .d a.data, .d (.int .i64 i)] [] = some (.tup [.d (Rf.data ⟨r.node, r.shift + a.shift⟩), .d (.bool true)], []) := by
  have hxm := List.mem_of_getElem? hx
  have hl := hG.nd.lists x hxm
  have hsm := hG.small
  have hrs := hG.shifts x hxm r (List.mem_of_getElem? hr)
  have := next_runH N a x i r ha hx hr (by omega)
  unfold upRf at this
  rw [wrap64 (by omega) (by omega)] at this
  exact this
theorem nextS_sub {N : List Nd} {B : Int} (hG : GOk N B) {a b : Rf} {x y : Nd} {L : List K3} {i : Nat} {r q : Rf} (ha : 0 ≤ a.node) (hb : 0 ≤ b.node) (hx : N[a.node.toNat]? = some x) (hy : N[b.node.toNat]? = some y)
    (hsa : -2000000000000000000 ≤ a.shift ∧ a.shift ≤ 2000000000000000000) (hsb : -2000000000000000000 ≤ b.shift ∧ b.shift ≤ 2000000000000000000) (hr : x.next[i]? = some r) (hq : y.next[i]? = some q)
    (rec : SuRuns N L ⟨r.node, r.shift + a.shift⟩ ⟨q.node, q.shift + b.shift⟩) :
    ∃ p o M, idxPair x y (a.shift - b.shift) i false = some p ∧ RW 60 [.ptr 0 0, .d a.data, .d b.data, .d (.int .i64 i), .d (.int .i64 i), .clos 32813 [.ptr 0 0]] (suO N L) = some (.d (.bool o), suO N (L ++ M)) ∧
      (o = true → p ∈ L ++ M ∧ ∀ p ∈ M, LocS N p (· ∈ L ++ M)) ∧ (SubP N p → o = true) := by
  obtain ⟨o, M, h1, h2⟩ := rec
  refine ⟨(r.node, q.node, (a.shift - b.shift) + r.shift - q.shift), o, M, ?_, rnext_sub (nxt_run hG a x i r ha hx hr hsa) (nxt_run hG b y i q hb hy hq hsb) h1, ?_⟩
  · unfold idxPair
    rw [hr, hq]
    rfl
  · have e : key3 false ⟨r.node, r.shift + a.shift⟩ ⟨q.node, q.shift + b.shift⟩ = (r.node, q.node, (a.shift - b.shift) + r.shift - q.shift) := by
      rw [key3_eq]
      dsimp only
      rw [show r.shift + a.shift - (q.shift + b.shift) = a.shift - b.shift + r.shift - q.shift by omega]
    unfold SuPost at h2
    rw [e] at h2
    exact h2
theorem nextS_down {N : List Nd} {B : Int} (hG : GOk N B) {a b : Rf} {x y : Nd} {L : List K3} {i : Nat} {r q : Rf} (ha : 0 ≤ a.node) (hb : 0 ≤ b.node) (hx : N[a.node.toNat]? = some x) (hy : N[b.node.toNat]? = some y)
    (hsa : -2000000000000000000 ≤ a.shift ∧ a.shift ≤ 2000000000000000000) (hsb : -2000000000000000000 ≤ b.shift ∧ b.shift ≤ 2000000000000000000) (hr : x.next[i]? = some r) (hq : y.next[i]? = some q)
    (rec : SuRuns N L ⟨q.node, q.shift + b.shift⟩ ⟨r.node, r.shift + a.shift⟩) :
    ∃ p o M, idxPair x y (a.shift - b.shift) i true = some p ∧ RW 60 [.ptr 0 0, .d a.data, .d b.data, .d (.int .i64 i), .d (.int .i64 i), .clos 32829 [.ptr 0 0]] (suO N L) = some (.d (.bool o), suO N (L ++ M)) ∧
      (o = true → p ∈ L ++ M ∧ ∀ p ∈ M, LocS N p (· ∈ L ++ M)) ∧ (SubP N p → o = true) := by
  obtain ⟨o, M, h1, h2⟩ := rec
  refine ⟨(q.node, r.node, q.shift - r.shift - (a.shift - b.shift)), o, M, ?_, rnext_down (nxt_run hG a x i r ha hx hr hsa) (nxt_run hG b y i q hb hy hq hsb) h1, ?_⟩
  · unfold idxPair
    rw [hr, hq]
    rfl
  · have e : key3 false ⟨q.node, q.shift + b.shift⟩ ⟨r.node, r.shift + a.shift⟩ = (q.node, r.node, q.shift - r.shift - (a.shift - b.shift)) := by
      rw [key3_eq]
      dsimp only
      rw [show q.shift + b.shift - (r.shift + a.shift) = q.shift - r.shift - (a.shift - b.shift) by omega]
    unfold SuPost at h2
    rw [e] at h2
    exact h2

theorem su_run (N : List Nd) (B : Int) (hG : GOk N B) : ∀ (f : Nat) (a b : Rf) (L : List K3), muL N false L ≤ f → 0 ≤ a.node → a.node < N.length → 0 ≤ b.node → b.node < N.length →
    (-1000000000000000000 + f * 1000000000 ≤ a.shift ∧ a.shift ≤ 1000000000000000000 - f * 1000000000) → (-1000000000000000000 + f * 1000000000 ≤ b.shift ∧ b.shift ≤ 1000000000000000000 - f * 1000000000) → SuRuns N L a b := by
  intro f
  induction f using Nat.strongRecOn with
  | _ f ih =>
  intro a b L hm ha ha2 hb hb2 hsa hsb
  have hx : N[a.node.toNat]? = some (N[a.node.toNat]'(by omega)) := List.getElem?_eq_getElem _
  have hy : N[b.node.toNat]? = some (N[b.node.toNat]'(by omega)) := List.getElem?_eq_getElem _
  generalize N[a.node.toNat]'(by omega) = x at hx
  generalize N[b.node.toNat]'(by omega) = y at hy
  have hxm := List.mem_of_getElem? hx
  have hym := List.mem_of_getElem? hy
  have hsm := hG.small
  have nx := hG.ns x hxm
  have ny := hG.ns y hym
  have px := nx.prio
  have py := ny.prio
  have w1 : IntKind.wrap .i64 (x.prio + a.shift) = x.prio + a.shift := wrap64 (by omega) (by omega)
  have w2 : IntKind.wrap .i64 (y.prio + b.shift) = y.prio + b.shift := wrap64 (by omega) (by omega)
  have w3 : IntKind.wrap .i64 (a.shift - b.shift) = a.shift - b.shift := wrap64 (by omega) (by omega)
  have hP1 := prio_runH N a x ha hx
  have hP2 := prio_runH N b y hb hy
  have hK1 := kind_runH N a x ha hx
  have hK2 := kind_runH N b y hb hy
  rw [Rf.data_eq] at hP1 hP2 hK1 hK2
  have d0 : decide (0 ≤ a.node) = true := decide_eq_true ha
  have d1 : decide (0 ≤ b.node) = true := decide_eq_true hb
  -- what subtyping needs
  have need : SubP N (key3 false a b) → x.kind = y.kind ∧ prioE x a = prioE y b ∧ ∃ l, needS x y (a.shift - b.shift) = some l ∧ ∀ q ∈ l, SubP N q := by
    intro hE
    rw [key3_eq] at hE
    obtain ⟨x', y', h1, h2, h3, h4, h5, h6, h7⟩ := hE.loc
    dsimp only at h1 h2 h3 h4 h6 h7
    rw [hx] at h3
    rw [hy] at h4
    injection h3 with h3
    injection h4 with h4
    subst h3; subst h4
    refine ⟨h5, ?_, h7⟩
    unfold prioE
    rw [← h5]
    cases hb' : actB x.kind with
    | false => rfl
    | true =>
      rw [if_pos rfl, if_pos rfl, w1, w2]
      have := h6 hb'
      omega
  by_cases c1 : x.kind = y.kind
  case neg =>
    have e1 := decide_eq_false c1
    refine ⟨false, [], ?_, (fun h => by cases h), fun hE => absurd (need hE).1 c1⟩
    rw [List.append_nil]
    unfold suO
    refine runW_fn rfl rfl ?_
    unfold runFn c45
    rw [Rf.data_eq, Rf.data_eq]
    simp only [go_sem, hP1, hP2, hK1, hK2, e1]
    show _ = _
    kernel_rfl
  have e1 := decide_eq_true c1
  by_cases c3 : prioE x a = prioE y b
  case neg =>
    have e3 := decide_eq_false c3
    refine ⟨false, [], ?_, (fun h => by cases h), fun hE => absurd (need hE).2.1 c3⟩
    rw [List.append_nil]
    unfold suO
    refine runW_fn rfl rfl ?_
    unfold runFn c45
    rw [Rf.data_eq, Rf.data_eq]
    simp only [go_sem, hP1, hP2, hK1, hK2, e1, e3]
    show _ = _
    kernel_rfl
  have e3 := decide_eq_true c3
  have hg := mapGet_es (a.node, b.node, a.shift - b.shift) L
  unfold keyD at hg
  dsimp only at hg
  by_cases c4 : (a.node, b.node, a.shift - b.shift) ∈ L
  case pos =>
    rw [if_pos c4] at hg
    refine ⟨true, [], ?_, fun _ => ⟨by rw [key3_eq, List.append_nil]; exact c4, fun p hp => by cases hp⟩, fun _ => rfl⟩
    rw [List.append_nil]
    unfold suO
    refine runW_fn rfl rfl ?_
    unfold runFn c45
    rw [Rf.data_eq, Rf.data_eq]
    simp only [go_sem, hP1, hP2, hK1, hK2, e1, e3, w3, hg]
    show _ = _
    kernel_rfl
  rw [if_neg c4] at hg
  have hp := mapPut_es (a.node, b.node, a.shift - b.shift) L c4
  unfold keyD at hp
  dsimp only at hp
  have hin : actB x.kind = true → (a.node, b.node, a.shift - b.shift) ∈ allK N false := by
    intro hact
    have := mem_allK (N := N) (free := false) (i := a.node.toNat) (j := b.node.toNat) (by omega) (by omega)
    unfold pairOf ndf at this
    rw [hx, hy, if_neg (by decide), Option.getD_some, Option.getD_some, Int.toNat_of_nonneg ha, Int.toNat_of_nonneg hb] at this
    unfold prioE at c3
    rw [← c1, hact, if_pos rfl, if_pos rfl, w1, w2] at c3
    rw [show a.shift - b.shift = y.prio - x.prio by omega]
    exact this
  have recs : actB x.kind = true → ∀ (M : List K3) (r q : Rf), r ∈ x.next → q ∈ y.next → SuRuns N (L ++ [(a.node, b.node, a.shift - b.shift)] ++ M) ⟨r.node, r.shift + a.shift⟩ ⟨q.node, q.shift + b.shift⟩ ∧ SuRuns N (L ++ [(a.node, b.node, a.shift - b.shift)] ++ M) ⟨q.node, q.shift + b.shift⟩ ⟨r.node, r.shift + a.shift⟩ := by
    intro hact M r q hr hq
    have h1 := mu_lt (hin hact) c4
    have h2 := mu_le N false (L ++ [(a.node, b.node, a.shift - b.shift)]) M
    have h3 := hG.shifts x hxm r hr
    have h4 := hG.shifts y hym q hq
    have h5 := hG.refs x hxm r hr
    have h6 := hG.refs y hym q hq
    constructor
    · refine ih (f - 1) (by omega) _ _ _ (by omega) h5.1 h5.2 h6.1 h6.2 ?_ ?_
      · dsimp only; omega
      · dsimp only; omega
    · refine ih (f - 1) (by omega) _ _ _ (by omega) h6.1 h6.2 h5.1 h5.2 ?_ ?_
      · dsimp only; omega
      · dsimp only; omega
  have hSet : ∀ {M : List K3} (z : K3), z ∈ (L ++ [(a.node, b.node, a.shift - b.shift)]) ++ M → z ∈ L ++ (a.node, b.node, a.shift - b.shift) :: M := fun z hz => by rw [List.append_assoc] at hz; exact hz
  have hprio : actB x.kind = true → x.prio + (a.shift - b.shift) = y.prio := by
    intro hact
    unfold prioE at c3
    rw [← c1, hact, if_pos rfl, if_pos rfl, w1, w2] at c3
    omega
  have post : ∀ {M : List K3} {l : List K3}, needS x y (a.shift - b.shift) = some l → (∀ q ∈ l, q ∈ L ++ [(a.node, b.node, a.shift - b.shift)] ++ M) → (∀ p ∈ M, LocS N p (· ∈ L ++ [(a.node, b.node, a.shift - b.shift)] ++ M)) →
      SuPost N L a b true ((a.node, b.node, a.shift - b.shift) :: M) := by
    intro M l hl hall hM
    refine ⟨fun _ => ⟨by rw [key3_eq]; exact List.mem_append.2 (.inr List.mem_cons_self), fun p hp' => ?_⟩, fun _ => rfl⟩
    rcases List.mem_cons.1 hp' with e | hp'
    · subst e
      exact ⟨x, y, ha, hb, hx, hy, c1, hprio, l, hl, fun q hq => hSet _ (hall q hq)⟩
    · exact (hM p hp').mono hSet
  have bad : ∀ {M : List K3} , ¬ (∃ l, needS x y (a.shift - b.shift) = some l ∧ ∀ q ∈ l, SubP N q) → SuPost N L a b false M := fun h => ⟨(fun h => by cases h), fun hE => absurd (need hE).2.2 h⟩
  by_cases k3 : x.kind ≤ 3
  · have k4 : decide (x.kind = 4) = false := decide_eq_false (by omega)
    have k5 : decide (x.kind = 5) = false := decide_eq_false (by omega)
    have k6 : decide (x.kind = 6) = false := decide_eq_false (by omega)
    have k7 : decide (x.kind = 7) = false := decide_eq_false (by omega)
    refine ⟨true, [(a.node, b.node, a.shift - b.shift)], ?_, post (l := []) ?_ (fun q hq => by cases hq) (fun q hq => by cases hq)⟩
    · unfold suO
      refine runW_fn rfl rfl ?_
      unfold runFn c45
      rw [Rf.data_eq, Rf.data_eq]
      simp only [go_sem, hP1, hP2, hK1, hK2, e1, e3, w3, hg, hp, k4, k5, k6, k7]
      show _ = _
      kernel_rfl
    · unfold needS
      rw [if_neg (by omega), if_neg (by omega), if_neg (by omega)]
  have hact : actB x.kind = true := by
    have := nx.low
    unfold actB
    simp; omega
  have recs := recs hact
  by_cases k45 : x.kind = 4 ∨ x.kind = 5
  · have hnx := (nx.send k45).2
    have hny := (ny.send (by omega)).2
    have hr0 : x.next[0]? = some (x.next[0]'(by omega)) := List.getElem?_eq_getElem _
    have hr1 : x.next[1]? = some (x.next[1]'(by omega)) := List.getElem?_eq_getElem _
    have hq0 : y.next[0]? = some (y.next[0]'(by omega)) := List.getElem?_eq_getElem _
    have hq1 : y.next[1]? = some (y.next[1]'(by omega)) := List.getElem?_eq_getElem _
    generalize x.next[0]'(by omega) = r0 at hr0
    generalize x.next[1]'(by omega) = r1 at hr1
    generalize y.next[0]'(by omega) = q0 at hq0
    generalize y.next[1]'(by omega) = q1 at hq1
    have first : ∃ p o M, idxPair x y (a.shift - b.shift) 0 (decide (x.kind = 4)) = some p ∧ RW 60 [.ptr 0 0, .d a.data, .d b.data, .d (.int .i64 0), .d (.int .i64 0), .clos (if x.kind = 4 then 32829 else 32813) [.ptr 0 0]] (suO N (L ++ [(a.node, b.node, a.shift - b.shift)])) = some (.d (.bool o), suO N (L ++ [(a.node, b.node, a.shift - b.shift)] ++ M)) ∧
      (o = true → p ∈ L ++ [(a.node, b.node, a.shift - b.shift)] ++ M ∧ ∀ p ∈ M, LocS N p (· ∈ L ++ [(a.node, b.node, a.shift - b.shift)] ++ M)) ∧ (SubP N p → o = true) := by
      have hrec := recs [] r0 q0 (List.mem_of_getElem? hr0) (List.mem_of_getElem? hq0)
      rw [List.append_nil] at hrec
      by_cases h4 : x.kind = 4
      · rw [decide_eq_true h4, if_pos h4]
        exact nextS_down hG ha hb hx hy (by omega) (by omega) hr0 hq0 hrec.2
      · rw [decide_eq_false h4, if_neg h4]
        exact nextS_sub hG ha hb hx hy (by omega) (by omega) hr0 hq0 hrec.1
    obtain ⟨p0, o0, M0, hp0, h01, h02, h03⟩ := first
    have hrec := recs M0 r1 q1 (List.mem_of_getElem? hr1) (List.mem_of_getElem? hq1)
    obtain ⟨p1, o1, M1, hp1, h11, h12, h13⟩ := nextS_sub hG ha hb hx hy (by omega) (by omega) hr1 hq1 hrec.1
    have hneed : needS x y (a.shift - b.shift) = some [p0, p1] := by
      unfold needS
      rw [if_pos k45, hp0, hp1]
    have h11 : RW 60 [.ptr 0 0, .d a.data, .d b.data, .d (.int .i64 1), .d (.int .i64 1), .clos 32813 [.ptr 0 0]] (suO N (L ++ [(a.node, b.node, a.shift - b.shift)] ++ M0)) = some (.d (.bool o1), suO N (L ++ [(a.node, b.node, a.shift - b.shift)] ++ M0 ++ M1)) := h11
    rw [Rf.data_eq, Rf.data_eq] at h01 h11
    unfold suO at h01 h11
    have hs1 : L ++ [(a.node, b.node, a.shift - b.shift)] ++ M0 = L ++ (a.node, b.node, a.shift - b.shift) :: M0 := List.append_assoc ..
    have hs2 : L ++ [(a.node, b.node, a.shift - b.shift)] ++ M0 ++ M1 = L ++ (a.node, b.node, a.shift - b.shift) :: (M0 ++ M1) := by rw [List.append_assoc, List.append_assoc]; rfl
    have hs3 : L ++ [(a.node, b.node, a.shift - b.shift)] ++ M0 ++ M1 = L ++ [(a.node, b.node, a.shift - b.shift)] ++ (M0 ++ M1) := List.append_assoc ..
    have walk : ∀ o, (o0 = true → o = o1) → (o0 = false → o = false) → RW 45 [.ptr 0 0, .d a.data, .d b.data] (suO N L) = some (.d (.bool o), suO N (if o0 = true then L ++ (a.node, b.node, a.shift - b.shift) :: (M0 ++ M1) else L ++ (a.node, b.node, a.shift - b.shift) :: M0)) := by
      intro o hoT hoF
      rw [← hs1, ← hs2]
      rcases k45 with h4 | h5
      · have k4 : decide (x.kind = 4) = true := decide_eq_true h4
        rw [if_pos h4] at h01
        cases o0 with
        | true =>
          rw [hoT rfl, if_pos rfl]
          unfold suO
          refine runW_fn rfl rfl ?_
          unfold runFn c45
          rw [Rf.data_eq, Rf.data_eq]
          simp only [go_sem, hP1, hP2, hK1, hK2, e1, e3, w3, hg, hp, k4, h01, h11]
          show _ = _
          kernel_rfl
        | false =>
          rw [hoF rfl, if_neg (by decide)]
          unfold suO
          refine runW_fn rfl rfl ?_
          unfold runFn c45
          rw [Rf.data_eq, Rf.data_eq]
          simp only [go_sem, hP1, hP2, hK1, hK2, e1, e3, w3, hg, hp, k4, h01]
          show _ = _
          kernel_rfl
      · have k4 : decide (x.kind = 4) = false := decide_eq_false (by omega)
        have k5 : decide (x.kind = 5) = true := decide_eq_true h5
        rw [if_neg (by omega)] at h01
        cases o0 with
        | true =>
          rw [hoT rfl, if_pos rfl]
          unfold suO
          refine runW_fn rfl rfl ?_
          unfold runFn c45
          rw [Rf.data_eq, Rf.data_eq]
          simp only [go_sem, hP1, hP2, hK1, hK2, e1, e3, w3, hg, hp, k4, k5, h01, h11]
          show _ = _
          kernel_rfl
        | false =>
          rw [hoF rfl, if_neg (by decide)]
          unfold suO
          refine runW_fn rfl rfl ?_
          unfold runFn c45
          rw [Rf.data_eq, Rf.data_eq]
          simp only [go_sem, hP1, hP2, hK1, hK2, e1, e3, w3, hg, hp, k4, k5, h01]
          show _ = _
          kernel_rfl
    cases o0 with
    | false =>
      have w := walk false (fun h => by cases h) (fun _ => rfl)
      rw [if_neg (by decide)] at w
      refine ⟨false, _, w, bad ?_⟩
      rintro ⟨l, hl, hall⟩
      rw [hneed] at hl
      injection hl with hl
      subst hl
      exact absurd (h03 (hall p0 List.mem_cons_self)) (by decide)
    | true =>
      have w := walk o1 (fun _ => rfl) (fun h => by cases h)
      rw [if_pos rfl] at w
      cases o1 with
      | false =>
        refine ⟨false, _, w, bad ?_⟩
        rintro ⟨l, hl, hall⟩
        rw [hneed] at hl
        injection hl with hl
        subst hl
        exact absurd (h13 (hall p1 (List.mem_cons_of_mem _ List.mem_cons_self))) (by decide)
      | true =>
        refine ⟨true, _, w, post hneed ?_ ?_⟩
        · intro q hq
          rw [← hs3]
          rcases List.mem_cons.1 hq with e | hq
          · subst e; exact List.mem_append.2 (.inl (h02 rfl).1)
          · rcases List.mem_cons.1 hq with e | hq
            · subst e; exact (h12 rfl).1
            · cases hq
        · rw [← hs3]
          intro p hp'
          rcases List.mem_append.1 hp' with hp' | hp'
          · exact ((h02 rfl).2 p hp').mono fun z hz => List.mem_append.2 (.inl hz)
          · exact (h12 rfl).2 p hp'
  · -- labels
    have k67 : x.kind = 6 ∨ x.kind = 7 := by have := nx.low; omega
    have labs : ∃ o M z, needS x y (a.shift - b.shift) = labPairs x y (a.shift - b.shift) z ∧ RW 45 [.ptr 0 0, .d a.data, .d b.data] (suO N L) = some (.d (.bool o), suO N (L ++ [(a.node, b.node, a.shift - b.shift)] ++ M)) ∧
        (o = true → (∀ p ∈ M, LocS N p (· ∈ L ++ [(a.node, b.node, a.shift - b.shift)] ++ M)) ∧ ∀ s ∈ z, ∃ p, labPair x y (a.shift - b.shift) s = some p ∧ p ∈ L ++ [(a.node, b.node, a.shift - b.shift)] ++ M) ∧ ((∀ s ∈ z, ∃ p, labPair x y (a.shift - b.shift) s = some p ∧ SubP N p) → o = true) := by
      have k4 : decide (x.kind = 4) = false := decide_eq_false (by omega)
      have k5 : decide (x.kind = 5) = false := decide_eq_false (by omega)
      by_cases h6 : x.kind = 6
      · have k6 := decide_eq_true h6
        obtain ⟨o, M, g1, g2, g3⟩ := slabels_run N B hG b a b x y y (L ++ [(a.node, b.node, a.shift - b.shift)]) hb hy ha hb hx hy (by omega) (by omega) (fun M r q hr hq => (recs M r q hr hq).1)
        refine ⟨o, M, y.labels, ?_, ?_, g2, g3⟩
        · unfold needS
          rw [if_neg k45, if_pos h6]
        · rw [Rf.data_eq, Rf.data_eq] at g1
          unfold suO at g1 ⊢
          refine runW_fn rfl rfl ?_
          unfold runFn c45
          rw [Rf.data_eq, Rf.data_eq]
          simp only [go_sem, hP1, hP2, hK1, hK2, e1, e3, w3, hg, hp, k4, k5, k6, g1]
          show _ = _
          kernel_rfl
      · have k6 := decide_eq_false h6
        have k7 : decide (x.kind = 7) = true := decide_eq_true (by omega)
        obtain ⟨o, M, g1, g2, g3⟩ := slabels_run N B hG a a b x y x (L ++ [(a.node, b.node, a.shift - b.shift)]) ha hx ha hb hx hy (by omega) (by omega) (fun M r q hr hq => (recs M r q hr hq).1)
        refine ⟨o, M, x.labels, ?_, ?_, g2, g3⟩
        · unfold needS
          rw [if_neg k45, if_neg h6, if_pos (by omega)]
        · rw [Rf.data_eq, Rf.data_eq] at g1
          unfold suO at g1 ⊢
          refine runW_fn rfl rfl ?_
          unfold runFn c45
          rw [Rf.data_eq, Rf.data_eq]
          simp only [go_sem, hP1, hP2, hK1, hK2, e1, e3, w3, hg, hp, k4, k5, k6, k7, g1]
          show _ = _
          kernel_rfl
    obtain ⟨o, M, z, hn, g1, g2, g3⟩ := labs
    refine ⟨o, (a.node, b.node, a.shift - b.shift) :: M, ?_, ?_⟩
    · rw [List.append_assoc] at g1
      exact g1
    · cases o with
      | true =>
        obtain ⟨g4, g5⟩ := g2 rfl
        obtain ⟨l, hl⟩ := labPairs_some (l := z) fun s hs => ⟨_, (g5 s hs).choose_spec.1⟩
        refine post (hn.trans hl) (fun q hq => ?_) g4
        obtain ⟨s, hs, he⟩ := (labPairs_mem hl q).1 hq
        obtain ⟨p, hp1, hp2⟩ := g5 s hs
        rw [he] at hp1
        injection hp1 with hp1
        rw [hp1]
        exact hp2
      | false =>
        refine bad ?_
        rintro ⟨l, hl, hall⟩
        rw [hn] at hl
        refine absurd (g3 fun s hs => ?_) (by decide)
        obtain ⟨p, hp⟩ := labPairs_all hl s hs
        exact ⟨p, hp, hall p ((labPairs_mem hl p).2 ⟨s, hs, hp⟩)⟩
end Go.Proofs.YtijfioakpngdhaaDoor
