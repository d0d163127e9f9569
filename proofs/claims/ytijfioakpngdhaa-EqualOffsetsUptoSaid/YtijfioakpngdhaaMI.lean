/- The comparison of references up to priorities, walked. -/
import Derived.Test.YtijfioakpngdhaaMH
namespace Go.Proofs.Ytijfioakpngdhaa
open Go.V
set_option maxRecDepth 100000
set_option linter.unusedSimpArgs false
set_option linter.unusedVariables false

def alI (N : List Nd) (a b : Rf) (x y : Nd) (L : List K3) (i : Nat) : St := ⟨[(0, .ptr 0 0), (4, .ptr 2 0), (5, .ptr 3 0), (7, .ptr 4 0), (8, .ptr 5 0), (76, .d (.int .i64 x.next.length)), (77, .d (.int .i64 i))],
  alO N L ++ [(2, some (bxR a)), (3, some (bxR b)), (4, some (bxN x)), (5, some (bxN y))], 6, 2, false⟩
/-- what a run tells -/
def AlPost (N : List Nd) (L : List K3) (a b : Rf) (r : Bool) (M : List K3) : Prop :=
  (r = true → key3 true a b ∈ L ++ M ∧ ∀ p ∈ M, LocOk N true p (· ∈ L ++ M)) ∧ (EqP N true (key3 true a b) → r = true)
def AlRuns (N : List Nd) (L : List K3) (a b : Rf) : Prop := ∃ r M, RW 62 [.ptr 0 0, .d a.data, .d b.data] (alO N L) = some (.d (.bool r), alO N (L ++ M)) ∧ AlPost N L a b r M
/-- the pairs behind a pair, up to a place, are there -/
def BehindA (a b : Rf) (x y : Nd) (i : Nat) (S : List K3) : Prop := ∀ (j : Nat) (r : Rf), j < i → x.next[j]? = some r → ∃ k q, kIdx x y j = some k ∧ y.next[k]? = some q ∧ (r.node, q.node, 0) ∈ S
theorem BehindA.mono {a b : Rf} {x y : Nd} {i : Nat} {S S' : List K3} (h : BehindA a b x y i S) (hs : ∀ p ∈ S, p ∈ S') : BehindA a b x y i S' := fun j r hj hr => by
  obtain ⟨k, q, h1, h2, h3⟩ := h j r hj hr
  exact ⟨k, q, h1, h2, hs _ h3⟩

def AlInv (N : List Nd) (a b : Rf) (x y : Nd) (L : List K3) (i : Nat) (s : St) : Prop := ∃ M, s = alI N a b x y (L ++ M) i ∧ (∀ p ∈ M, LocOk N true p (· ∈ L ++ M)) ∧ BehindA a b x y i (L ++ M)
def AlQ (N : List Nd) (a b : Rf) (x y : Nd) (L : List K3) (e : Out × St) : Prop :=
  (∃ M fr nx, e = (.exit 0, ⟨fr, (alI N a b x y (L ++ M) 0).ob, nx, 2, false⟩) ∧ (∀ p ∈ M, LocOk N true p (· ∈ L ++ M)) ∧ BehindA a b x y x.next.length (L ++ M)) ∨
  (∃ M fr ob nx, e = (.ret, ⟨fr, ob, nx, 2, false⟩) ∧ fget fr 6 = .d (.bool false) ∧ fin1 ⟨fr, ob, nx, 2, false⟩ [.d (.bool false)] = some (.d (.bool false), alO N (L ++ M)) ∧
    ∃ (j : Nat) (r : Rf), x.next[j]? = some r ∧ ∀ k q, kIdx x y j = some k → y.next[k]? = some q → ¬ EqP N true (r.node, q.node, 0))

theorem al_step (N : List Nd) (B : Int) (hG : GOk N B) (a b : Rf) (x y : Nd) (L : List K3) (ha : 0 ≤ a.node) (hb : 0 ≤ b.node) (hx : N[a.node.toNat]? = some x) (hy : N[b.node.toNat]? = some y)
    (hsa : -2000000000000000000 ≤ a.shift ∧ a.shift ≤ 2000000000000000000) (hsb : -2000000000000000000 ≤ b.shift ∧ b.shift ≤ 2000000000000000000)
    (rec : ∀ (M : List K3) (r q : Rf), r ∈ x.next → q ∈ y.next → AlRuns N (L ++ M) ⟨r.node, r.shift + a.shift⟩ ⟨q.node, q.shift + b.shift⟩) (i : Nat) (s : St) (hi : i < x.next.length) (hI : AlInv N a b x y L i s) :
    (∃ s', exec att RW LW c62_l0 s = some (.normal, s') ∧ AlInv N a b x y L (i + 1) (norm [0, 4, 5, 7, 8, 76, 77] s')) ∨ (∃ e, exec att RW LW c62_l0 s = some e ∧ e.1 ≠ .normal ∧ AlQ N a b x y L e) := by
  obtain ⟨M, rfl, hM, hBe⟩ := hI
  have hxm := List.mem_of_getElem? hx
  have hym := List.mem_of_getElem? hy
  have hlx := hG.nd.lists x hxm
  have hly := hG.nd.lists y hym
  have hi' : (i : Int) < x.next.length := by omega
  have hk : x.next[i]? = some x.next[i] := List.getElem?_eq_getElem hi
  have hrm : x.next[i] ∈ x.next := List.getElem_mem hi
  generalize x.next[i] = rf at hk hrm
  have hrs := hG.shifts x hxm rf hrm
  have hrn := hG.refs x hxm rf hrm
  have hsm := hG.small
  have hn1 := next_runH N a x i rf ha hx hk hlx.2
  have w1 : IntKind.wrap .i64 (rf.shift + a.shift) = rf.shift + a.shift := wrap64 (by omega) (by omega)
  have w5 : IntKind.wrap .i64 ((i : Int) + 1) = ((i + 1 : Nat) : Int) := by rw [wrap64 (by omega) (by omega)]; omega
  unfold upRf at hn1
  rw [w1] at hn1
  rw [Rf.data_eq, Rf.data_eq] at hn1
  dsimp only at hn1
  -- no second reference
  have none2 : ∀ kk : Int, (kk < 0 ∨ (y.next.length : Int) ≤ kk) → RW 94 [.d (.agg [.sl 4 (N.map Nd.data)]), .d (.agg [.int .i64 b.node, .int .i64 b.shift]), .d (.int .i64 kk)] [] = some (.tup [.d (.agg [.int .i64 0, .int .i64 0]), .d (.bool false)], []) :=
    fun kk h => next_runN N b y kk hb hy h
  -- a second reference
  have some2 : ∀ (k : Nat) (q : Rf), y.next[k]? = some q → RW 94 [.d (.agg [.sl 4 (N.map Nd.data)]), .d (.agg [.int .i64 b.node, .int .i64 b.shift]), .d (.int .i64 k)] [] = some (.tup [.d (.agg [.int .i64 q.node, .int .i64 (q.shift + b.shift)]), .d (.bool true)], []) := by
    intro k q hq
    have hqm := List.mem_of_getElem? hq
    have hqs := hG.shifts y hym q hqm
    have w2 : IntKind.wrap .i64 (q.shift + b.shift) = q.shift + b.shift := wrap64 (by omega) (by omega)
    have := next_runH N b y k q hb hy hq hly.2
    unfold upRf at this
    rw [w2, Rf.data_eq, Rf.data_eq] at this
    exact this
  have recs : ∀ (q : Rf), q ∈ y.next → ∃ r M', RW 62 [.ptr 0 0, .d (.agg [.int .i64 rf.node, .int .i64 (rf.shift + a.shift)]), .d (.agg [.int .i64 q.node, .int .i64 (q.shift + b.shift)])] (alO N (L ++ M)) = some (.d (.bool r), alO N (L ++ (M ++ M'))) ∧
      (r = true → (rf.node, q.node, 0) ∈ L ++ (M ++ M') ∧ ∀ p ∈ M', LocOk N true p (· ∈ L ++ (M ++ M'))) ∧ (EqP N true (rf.node, q.node, 0) → r = true) := by
    intro q hq
    obtain ⟨r, M', h1, h2⟩ := rec M rf q hrm hq
    have hkk : key3 true ⟨rf.node, rf.shift + a.shift⟩ ⟨q.node, q.shift + b.shift⟩ = (rf.node, q.node, 0) := by
      unfold key3 ndf
      rw [if_pos rfl]
    unfold AlPost at h2
    rw [hkk, List.append_assoc] at h2
    rw [List.append_assoc] at h1
    exact ⟨r, M', h1, h2⟩
  by_cases hl0 : x.labels.length = 0
  · have hkx : ∀ j, kIdx x y j = some j := fun j => by unfold kIdx; rw [if_pos hl0]
    have hlz : decide (0 < (x.labels.length : Int)) = false := decide_eq_false (by omega)
    cases hq : y.next[i]? with
    | none =>
      have hge := List.getElem?_eq_none_iff.1 hq
      have hn2 := none2 (i : Int) (.inr (by omega))
      have hno : ∀ k' q', kIdx x y i = some k' → y.next[k']? = some q' → False := fun k' q' h1 h2 => by rw [hkx] at h1; injection h1 with h1; subst h1; rw [hq] at h2; cases h2
      refine .inr ⟨?e1, ?g1_1, ?g2_1, .inr ⟨M, ?fr_1, ?ob_1, ?nx_1, ?g3_1, ?gf_1, ?g4_1, i, rf, hk, ?g5_1⟩⟩
      case g1_1 =>
        unfold c62_l0 alI alO bxN bxR
        simp only [go_sem, hi', hn1, w5, hlz, hn2]
        rfl
      case g2_1 => intro h; cases h
      case g3_1 => rfl
      case gf_1 => rfl
      case g4_1 =>
        unfold alO
        show _ = _
        kernel_rfl
      case g5_1 =>
        intro k' q' hk' hq' hE
        exact hno k' q' hk' hq'
    | some q =>
      have hn2 := some2 i q hq
      obtain ⟨r, M', h1, h2, h3⟩ := recs q (List.mem_of_getElem? hq)
      unfold alO at h1
      obtain ⟨k, hki⟩ : ∃ k, k = i := ⟨i, rfl⟩
      have hkx := hki ▸ hkx i
      rw [hki] at hkx
      cases r with
      | true =>
        refine .inl ⟨?s2, ?g1_2, M ++ M', ?g2_2, ?g3_2, ?g4_2⟩
        case g1_2 =>
          unfold c62_l0 alI alO bxN bxR
          simp only [go_sem, hi', hn1, w5, hlz, hn2, h1]
          rfl
        case g2_2 =>
          unfold alI alO bxN bxR
          show _ = _
          kernel_rfl
        case g3_2 =>
          intro p hp
          rcases List.mem_append.1 hp with hp | hp
          · exact (hM p hp).mono fun z hz => by rw [← List.append_assoc]; exact List.mem_append.2 (.inl hz)
          · exact (h2 rfl).2 p hp
        case g4_2 =>
          intro j r hj hr
          by_cases e : j = i
          · subst e
            rw [hk] at hr
            injection hr with hr
            subst hr
            exact ⟨_, q, hkx, hq, (h2 rfl).1⟩
          · exact (hBe.mono fun p hp => by rw [← List.append_assoc]; exact List.mem_append.2 (.inl hp)) j r (by omega) hr
      | false =>
        refine .inr ⟨?e3, ?g1_3, ?g2_3, .inr ⟨M ++ M', ?fr_3, ?ob_3, ?nx_3, ?g3_3, ?gf_3, ?g4_3, i, rf, hk, ?g5_3⟩⟩
        case g1_3 =>
          unfold c62_l0 alI alO bxN bxR
          simp only [go_sem, hi', hn1, w5, hlz, hn2, h1]
          rfl
        case g2_3 => intro h; cases h
        case g3_3 => rfl
        case gf_3 => rfl
        case g4_3 =>
          unfold alO
          show _ = _
          kernel_rfl
        case g5_3 =>
          intro k' q' hk' hq' hE
          rw [hkx] at hk'
          injection hk' with hk'
          subst hk'
          rw [hq] at hq'
          injection hq' with hq'
          subst hq'
          exact absurd (h3 hE) (by decide)
  · have hlp : decide (0 < (x.labels.length : Int)) = true := decide_eq_true (by omega)
    have hil : i < x.labels.length := by
      have hns := hG.ns x hxm
      have : x.kind = 6 ∨ x.kind = 7 := by
        have h1 := hns.low
        have h2 := hns.leaf
        have h3 := hns.send
        by_cases h : x.kind ≤ 3
        · rw [(h2 h).2.1] at hl0; exact absurd rfl hl0
        · by_cases h' : x.kind = 4 ∨ x.kind = 5
          · rw [(h3 h').1] at hl0; exact absurd rfl hl0
          · omega
      have := (hns.sel this).2
      omega
    have hxl : x.labels[i]? = some x.labels[i] := List.getElem?_eq_getElem hil
    generalize x.labels[i] = lb at hxl
    have hidx := index_run y.labels lb (by omega)
    have hkx0 : kIdx x y i = idx? y.labels lb := by unfold kIdx; rw [if_neg hl0, hxl]
    unfold idxI at hidx
    cases hix : idx? y.labels lb with
    | none =>
      rw [hix] at hidx
      dsimp only at hidx
      have hn2 := none2 (-1) (.inl (by decide))
      have hno : ∀ k' q', kIdx x y i = some k' → y.next[k']? = some q' → False := fun k' q' h1 h2 => by rw [hkx0, hix] at h1; cases h1
      refine .inr ⟨?e4, ?g1_4, ?g2_4, .inr ⟨M, ?fr_4, ?ob_4, ?nx_4, ?g3_4, ?gf_4, ?g4_4, i, rf, hk, ?g5_4⟩⟩
      case g1_4 =>
        unfold c62_l0 alI alO bxN bxR
        simp only [go_sem, hi', hn1, w5, hlp, hxl, hidx, hn2]
        rfl
      case g2_4 => intro h; cases h
      case g3_4 => rfl
      case gf_4 => rfl
      case g4_4 =>
        unfold alO
        show _ = _
        kernel_rfl
      case g5_4 =>
        intro k' q' hk' hq' hE
        exact hno k' q' hk' hq'
    | some k =>
      rw [hix] at hidx
      dsimp only at hidx
      have hkx : kIdx x y i = some k := by rw [hkx0, hix]
      cases hq : y.next[k]? with
      | none =>
        have hge := List.getElem?_eq_none_iff.1 hq
        have hn2 := none2 (k : Int) (.inr (by omega))
        have hno : ∀ k' q', kIdx x y i = some k' → y.next[k']? = some q' → False := fun k' q' h1 h2 => by rw [hkx] at h1; injection h1 with h1; subst h1; rw [hq] at h2; cases h2
        refine .inr ⟨?e5, ?g1_5, ?g2_5, .inr ⟨M, ?fr_5, ?ob_5, ?nx_5, ?g3_5, ?gf_5, ?g4_5, i, rf, hk, ?g5_5⟩⟩
        case g1_5 =>
          unfold c62_l0 alI alO bxN bxR
          simp only [go_sem, hi', hn1, w5, hlp, hxl, hidx, hn2]
          rfl
        case g2_5 => intro h; cases h
        case g3_5 => rfl
        case gf_5 => rfl
        case g4_5 =>
          unfold alO
          show _ = _
          kernel_rfl
        case g5_5 =>
          intro k' q' hk' hq' hE
          exact hno k' q' hk' hq'
      | some q =>
        have hn2 := some2 k q hq
        obtain ⟨r, M', h1, h2, h3⟩ := recs q (List.mem_of_getElem? hq)
        unfold alO at h1
        cases r with
        | true =>
          refine .inl ⟨?s6, ?g1_6, M ++ M', ?g2_6, ?g3_6, ?g4_6⟩
          case g1_6 =>
            unfold c62_l0 alI alO bxN bxR
            simp only [go_sem, hi', hn1, w5, hlp, hxl, hidx, hn2, h1]
            rfl
          case g2_6 =>
            unfold alI alO bxN bxR
            show _ = _
            kernel_rfl
          case g3_6 =>
            intro p hp
            rcases List.mem_append.1 hp with hp | hp
            · exact (hM p hp).mono fun z hz => by rw [← List.append_assoc]; exact List.mem_append.2 (.inl hz)
            · exact (h2 rfl).2 p hp
          case g4_6 =>
            intro j r hj hr
            by_cases e : j = i
            · subst e
              rw [hk] at hr
              injection hr with hr
              subst hr
              exact ⟨k, q, hkx, hq, (h2 rfl).1⟩
            · exact (hBe.mono fun p hp => by rw [← List.append_assoc]; exact List.mem_append.2 (.inl hp)) j r (by omega) hr
        | false =>
          refine .inr ⟨?e7, ?g1_7, ?g2_7, .inr ⟨M ++ M', ?fr_7, ?ob_7, ?nx_7, ?g3_7, ?gf_7, ?g4_7, i, rf, hk, ?g5_7⟩⟩
          case g1_7 =>
            unfold c62_l0 alI alO bxN bxR
            simp only [go_sem, hi', hn1, w5, hlp, hxl, hidx, hn2, h1]
            rfl
          case g2_7 => intro h; cases h
          case g3_7 => rfl
          case gf_7 => rfl
          case g4_7 =>
            unfold alO
            show _ = _
            kernel_rfl
          case g5_7 =>
            intro k' q' hk' hq' hE
            rw [hkx] at hk'
            injection hk' with hk'
            subst hk'
            rw [hq] at hq'
            injection hq' with hq'
            subst hq'
            exact absurd (h3 hE) (by decide)
end Go.Proofs.Ytijfioakpngdhaa

namespace Go.Proofs.Ytijfioakpngdhaa
open Go.V
set_option maxRecDepth 100000
set_option linter.unusedSimpArgs false
set_option linter.unusedVariables false

theorem al_loop (N : List Nd) (B : Int) (hG : GOk N B) (a b : Rf) (x y : Nd) (L : List K3) (ha : 0 ≤ a.node) (hb : 0 ≤ b.node) (hx : N[a.node.toNat]? = some x) (hy : N[b.node.toNat]? = some y)
    (hsa : -2000000000000000000 ≤ a.shift ∧ a.shift ≤ 2000000000000000000) (hsb : -2000000000000000000 ≤ b.shift ∧ b.shift ≤ 2000000000000000000)
    (rec : ∀ (M : List K3) (r q : Rf), r ∈ x.next → q ∈ y.next → AlRuns N (L ++ M) ⟨r.node, r.shift + a.shift⟩ ⟨q.node, q.shift + b.shift⟩) :
    ∃ e, LW [0, 4, 5, 7, 8, 76, 77] c62_l0 (alI N a b x y L 0) = some e ∧ AlQ N a b x y L e := by
  refine loop_inv (Inv := AlInv N a b x y L) (n := x.next.length) (fun i s hi hI => al_step N B hG a b x y L ha hb hx hy hsa hsb rec i s hi hI) (fun s hI => ?_) x.next.length 0 _ (by omega) ⟨[], by rw [List.append_nil], (fun p hp => by cases hp), fun j r hj => by omega⟩
  obtain ⟨M, rfl, hM, hBe⟩ := hI
  refine ⟨?e, ?g1, ?g2, .inl ⟨M, ?fr, ?nx, ?g3, hM, hBe⟩⟩
  case g1 =>
    unfold c62_l0 alI alO bxN bxR
    simp only [go_sem]
    rfl
  case g2 => intro h; cases h
  case g3 =>
    unfold alI alO bxN bxR
    rfl

theorem al_run (N : List Nd) (B : Int) (hG : GOk N B) : ∀ (f : Nat) (a b : Rf) (L : List K3), muL N true L ≤ f → 0 ≤ a.node → a.node < N.length → 0 ≤ b.node → b.node < N.length →
    (-1000000000000000000 + f * 1000000000 ≤ a.shift ∧ a.shift ≤ 1000000000000000000 - f * 1000000000) → (-1000000000000000000 + f * 1000000000 ≤ b.shift ∧ b.shift ≤ 1000000000000000000 - f * 1000000000) → AlRuns N L a b := by
  intro f
  induction f using Nat.strongRecOn with
  | _ f ih =>
  intro a b L hm ha ha2 hb hb2 hsa hsb
  have hx : N[a.node.toNat]? = some (N[a.node.toNat]'(by omega)) := List.getElem?_eq_getElem _
  have hy : N[b.node.toNat]? = some (N[b.node.toNat]'(by omega)) := List.getElem?_eq_getElem _
  generalize N[a.node.toNat]'(by omega) = x at hx
  generalize N[b.node.toNat]'(by omega) = y at hy
  have hxm := List.mem_of_getElem? hx
  have hym := List.mem_of_getElem? hy
  have hsm := hG.small
  have nx := hG.ns x hxm
  have ny := hG.ns y hym
  have px := nx.prio
  have py := ny.prio
  have w1 : IntKind.wrap .i64 (x.prio + a.shift) = x.prio + a.shift := wrap64 (by omega) (by omega)
  have w2 : IntKind.wrap .i64 (y.prio + b.shift) = y.prio + b.shift := wrap64 (by omega) (by omega)
  have w3 : IntKind.wrap .i64 (a.shift - b.shift) = a.shift - b.shift := wrap64 (by omega) (by omega)
  have hS := same_runA a b
  have d0 : decide (0 ≤ a.node) = true := decide_eq_true ha
  have d1 : decide (0 ≤ b.node) = true := decide_eq_true hb
  have hkey : key3 true a b = (a.node, b.node, 0) := by unfold key3 ndf; rw [if_pos rfl]
  -- what equality needs
  have need : EqP N true (key3 true a b) → x.kind = y.kind ∧ x.labels.length = y.labels.length := by
    intro hE
    rw [hkey] at hE
    obtain ⟨x', y', h1, h2, h3, h4, h5, h6, h7, _⟩ := hE.loc
    dsimp only at h1 h2 h3 h4 h7
    rw [hx] at h3
    rw [hy] at h4
    injection h3 with h3
    injection h4 with h4
    subst h3; subst h4
    exact ⟨h5, h6⟩
  rw [Rf.data_eq, Rf.data_eq] at hS
  have fail : ∀ r : Prop, RW 62 [.ptr 0 0, .d a.data, .d b.data] (alO N L) = some (.d (.bool false), alO N L) → ¬ (x.kind = y.kind ∧ x.labels.length = y.labels.length) → AlRuns N L a b := fun _ h1 h2 =>
    ⟨false, [], by rw [List.append_nil]; exact h1, (fun h => by cases h), fun hE => absurd (need hE) h2⟩
  by_cases c1 : x.kind = y.kind
  · have e1 := decide_eq_true c1
    by_cases c2 : x.labels.length = y.labels.length
    · have e2 := decide_eq_true c2
      have hK := key_runA N L a b
      rw [Rf.data_eq, Rf.data_eq] at hK
      have hg := mapGet_es (a.node, b.node, 0) L
      unfold keyD at hg
      dsimp only at hg
      by_cases c4 : (a.node, b.node, 0) ∈ L
      · rw [if_pos c4] at hg
        refine ⟨true, [], ?_, fun _ => ⟨by rw [hkey, List.append_nil]; exact c4, fun p hp => by cases hp⟩, fun _ => rfl⟩
        rw [List.append_nil]
        unfold alO at hK ⊢
        refine runW_fn rfl rfl ?_
        unfold runFn c62
        rw [Rf.data_eq, Rf.data_eq]
        simp only [go_sem, d0, d1, hx, hy, Nd.data_eq, e1, e2, hS, hK, hg]
        show _ = _
        kernel_rfl
      · rw [if_neg c4] at hg
        have hp := mapPut_es (a.node, b.node, 0) L c4
        unfold keyD at hp
        dsimp only at hp
        have hin : x.next ≠ [] → (a.node, b.node, 0) ∈ allK N true := by
          intro hne
          have hact : actB x.kind = true := by
            unfold actB
            have := nx.low
            by_cases h4 : x.kind ≤ 3
            · exact absurd (nx.leaf h4).1 hne
            · simp; omega
          have := mem_allK (N := N) (free := true) (i := a.node.toNat) (j := b.node.toNat) (by omega) (by omega)
          unfold pairOf ndf at this
          rw [if_pos rfl, Int.toNat_of_nonneg ha, Int.toNat_of_nonneg hb] at this
          exact this
        obtain ⟨e, hl, hq⟩ := al_loop N B hG a b x y (L ++ [(a.node, b.node, 0)]) ha hb hx hy (by omega) (by omega) (fun M r q hr hq => by
          have h1 := mu_lt (hin (fun h => by rw [h] at hr; cases hr)) c4
          have h2 := mu_le N true (L ++ [(a.node, b.node, 0)]) M
          have h3 := hG.shifts x hxm r hr
          have h4 := hG.shifts y hym q hq
          have h5 := hG.refs x hxm r hr
          have h6 := hG.refs y hym q hq
          refine ih (f - 1) (by omega) _ _ _ (by omega) h5.1 h5.2 h6.1 h6.2 ?_ ?_
          · dsimp only; omega
          · dsimp only; omega)
        have hK1 := key_runA N L a b
        rw [Rf.data_eq, Rf.data_eq] at hK1
        unfold alO at hK
        rcases hq with ⟨M, fr, nx, rfl, h1, h2⟩ | ⟨M, fr, ob, nx, rfl, h1, h2, h3⟩
        · refine ⟨true, (a.node, b.node, 0) :: M, ?_, fun _ => ⟨by rw [hkey]; exact List.mem_append.2 (.inr List.mem_cons_self), ?_⟩, fun _ => rfl⟩
          · unfold alO
            refine runW_fn rfl rfl ?_
            unfold runFn c62
            rw [Rf.data_eq, Rf.data_eq]
            simp only [go_sem, d0, d1, hx, hy, Nd.data_eq, e1, e2, hS, hK, hg, hp]
            refine obind_mk (Eq.trans (by kernel_rfl) hl) ?_
            unfold alI alO bxN bxR
            simp only [go_sem]
            rw [List.append_assoc]
            show _ = _
            kernel_rfl
          · have hSet : ∀ z, z ∈ (L ++ [(a.node, b.node, 0)]) ++ M → z ∈ L ++ (a.node, b.node, 0) :: M := fun z hz => by rw [List.append_assoc] at hz; exact hz
            intro p hp'
            rcases List.mem_cons.1 hp' with e | hp'
            · subst e
              refine ⟨x, y, ha, hb, hx, hy, c1, c2, (fun h => by cases h), fun i r hr => ?_⟩
              · have hi := (List.getElem?_eq_some_iff.1 hr).1
                obtain ⟨k, q, k1, k2, k3⟩ := h2 i r hi hr
                refine ⟨k, q, k1, k2, ?_⟩
                unfold ndf
                rw [if_pos rfl]
                exact hSet _ k3
            · exact (h1 p hp').mono hSet
        · refine ⟨false, (a.node, b.node, 0) :: M, ?_, (fun h => by cases h), fun hE => ?_⟩
          · unfold alO
            refine runW_fn rfl rfl ?_
            unfold runFn c62
            rw [Rf.data_eq, Rf.data_eq]
            simp only [go_sem, d0, d1, hx, hy, Nd.data_eq, e1, e2, hS, hK, hg, hp]
            refine obind_mk (Eq.trans (by kernel_rfl) hl) ?_
            rw [List.append_assoc] at h2
            unfold alO at h2
            simp only [go_sem, h1]
            exact h2
          · exfalso
            obtain ⟨j, r, hj, hno⟩ := h3
            rw [hkey] at hE
            obtain ⟨x', y', q1, q2, q3, q4, q5, q6, q7, q8⟩ := hE.loc
            dsimp only at q1 q2 q3 q4 q7 q8
            rw [hx] at q3
            rw [hy] at q4
            injection q3 with q3
            injection q4 with q4
            subst q3; subst q4
            obtain ⟨k, q, k1, k2, k3⟩ := q8 j r hj
            unfold ndf at k3
            rw [if_pos rfl] at k3
            exact hno k q k1 k2 k3
    · have e2 := decide_eq_false c2
      refine fail True ?_ (fun h => c2 h.2)
      unfold alO
      refine runW_fn rfl rfl ?_
      unfold runFn c62
      rw [Rf.data_eq, Rf.data_eq]
      simp only [go_sem, d0, d1, hx, hy, Nd.data_eq, e1, e2]
      show _ = _
      kernel_rfl
  · have e1 := decide_eq_false c1
    refine fail True ?_ (fun h => c1 h.1)
    unfold alO
    refine runW_fn rfl rfl ?_
    unfold runFn c62
    rw [Rf.data_eq, Rf.data_eq]
    simp only [go_sem, d0, d1, hx, hy, Nd.data_eq, e1]
    show _ = _
    kernel_rfl
end Go.Proofs.Ytijfioakpngdhaa

namespace Go.Proofs.Ytijfioakpngdhaa
open Go.V
set_option maxRecDepth 100000
set_option linter.unusedSimpArgs false
set_option linter.unusedVariables false

noncomputable def eqB (N : List Nd) (a b : Rf) : Bool := @decide (EqP N false (key3 false a b)) (Classical.propDecidable _)
noncomputable def alB (N : List Nd) (a b : Rf) : Bool := @decide (EqP N true (key3 true a b)) (Classical.propDecidable _)
theorem eqB_iff {N : List Nd} {a b : Rf} : eqB N a b = true ↔ EqP N false (key3 false a b) := by unfold eqB; exact @decide_eq_true_iff _ (Classical.propDecidable _)
theorem alB_iff {N : List Nd} {a b : Rf} : alB N a b = true ↔ EqP N true (key3 true a b) := by unfold alB; exact @decide_eq_true_iff _ (Classical.propDecidable _)
/-- a reference to a node of a graph, with a shift that is not great -/
structure RefOk (N : List Nd) (a : Rf) : Prop where
  lo : 0 ≤ a.node
  hi : a.node < N.length
  sh : -800000000000000000 ≤ a.shift ∧ a.shift ≤ 800000000000000000
theorem mu_small {N : List Nd} {B : Int} (hG : GOk N B) (free : Bool) : muL N free [] ≤ 100000000 := by
  have h1 := mu_all N free []
  have h2 := hG.small.1
  have : N.length * N.length ≤ 10000 * 10000 := Nat.mul_le_mul h2 h2
  omega
theorem equal_run {N : List Nd} {B : Int} (hG : GOk N B) {a b : Rf} (ha : RefOk N a) (hb : RefOk N b) : RW 19 [.d (.agg [.sl 4 (N.map Nd.data)]), .d a.data, .d b.data] [] = some (.d (.bool (eqB N a b)), []) := by
  have h1 := ha.sh
  have h2 := hb.sh
  obtain ⟨r, M, hr, hp1, hp2⟩ := eq_run N B hG 100000000 a b [] (mu_small hG false) ha.lo ha.hi hb.lo hb.hi (by omega) (by omega)
  have e : eqB N a b = r := by
    cases r with
    | true =>
      obtain ⟨k1, k2⟩ := hp1 rfl
      exact eqB_iff.2 ⟨(· ∈ M), fun q hq => k2 q hq, k1⟩
    | false =>
      cases hb : eqB N a b with
      | false => rfl
      | true => exact absurd (hp2 (eqB_iff.1 hb)) (by decide)
  rw [e]
  rw [List.nil_append] at hr
  unfold eqO at hr
  rw [Rf.data_eq, Rf.data_eq] at hr ⊢
  refine runW_fn rfl rfl ?_
  unfold runFn c19
  have hes : esOf [] = [] := rfl
  rw [hes] at hr
  simp only [go_sem, hr]
theorem alike_run {N : List Nd} {B : Int} (hG : GOk N B) {a b : Rf} (ha : RefOk N a) (hb : RefOk N b) : RW 20 [.d (.agg [.sl 4 (N.map Nd.data)]), .d a.data, .d b.data] [] = some (.d (.bool (alB N a b)), []) := by
  have h1 := ha.sh
  have h2 := hb.sh
  obtain ⟨r, M, hr, hp1, hp2⟩ := al_run N B hG 100000000 a b [] (mu_small hG true) ha.lo ha.hi hb.lo hb.hi (by omega) (by omega)
  have e : alB N a b = r := by
    cases r with
    | true =>
      obtain ⟨k1, k2⟩ := hp1 rfl
      exact alB_iff.2 ⟨(· ∈ M), fun q hq => k2 q hq, k1⟩
    | false =>
      cases hb : alB N a b with
      | false => rfl
      | true => exact absurd (hp2 (alB_iff.1 hb)) (by decide)
  rw [e]
  rw [List.nil_append] at hr
  unfold alO at hr
  rw [Rf.data_eq, Rf.data_eq] at hr ⊢
  refine runW_fn rfl rfl ?_
  unfold runFn c20
  have hes : esOf [] = [] := rfl
  rw [hes] at hr
  simp only [go_sem, hr]
theorem offset_run0 (k : Int) (b : Bool) : RW 64 [.d (.int .i64 k), .d (.bool b)] [] = some (.tup [.d (.int .i64 (if b = true then k else 0)), .d (.bool b)], []) := by
  refine runW_fn rfl rfl ?_
  unfold runFn c64
  cases b with
  | true =>
    rw [if_pos rfl]
    simp only [go_sem]
    show _ = _
    kernel_rfl
  | false =>
    rw [if_neg (by decide)]
    simp only [go_sem]
    show _ = _
    kernel_rfl
theorem offset_run {N : List Nd} {B : Int} (hG : GOk N B) {a b : Rf} {x y : Nd} (hx : N[a.node.toNat]? = some x) (hy : N[b.node.toNat]? = some y) (ha : RefOk N a) (hb : RefOk N b) (d : Int) (hd : d = prioE y b - prioE x a) (hd2 : -100000000000000000 ≤ d ∧ d ≤ 100000000000000000)
    (ha2 : -100000000000000000 ≤ a.shift ∧ a.shift ≤ 100000000000000000) :
    RW 21 [.d (.agg [.sl 4 (N.map Nd.data)]), .d a.data, .d b.data] [] = some (.tup [.d (.int .i64 (if eqB N ⟨a.node, a.shift + d⟩ b = true then d else 0)), .d (.bool (eqB N ⟨a.node, a.shift + d⟩ b))], []) := by
  have h1 := prio_runH N a x ha.lo hx
  have h2 := prio_runH N b y hb.lo hy
  have w : IntKind.wrap .i64 d = d := wrap64 (by omega) (by omega)
  have h3 := raise_runH a d
  have w2 : IntKind.wrap .i64 (a.shift + d) = a.shift + d := wrap64 (by omega) (by omega)
  unfold upRf at h3
  rw [w2] at h3
  have h4 := equal_run hG (a := ⟨a.node, a.shift + d⟩) (b := b) ⟨ha.lo, ha.hi, by dsimp only; omega⟩ hb
  generalize eqB N ⟨a.node, a.shift + d⟩ b = r at h4 ⊢
  have h5 := offset_run0 d r
  rw [Rf.data_eq] at h1 h2
  rw [Rf.data_eq, Rf.data_eq] at h3 h4 ⊢
  dsimp only at h3 h4
  rw [hd] at w h3 h4 h5 ⊢
  refine runW_fn rfl rfl ?_
  unfold runFn c21
  simp only [go_sem, h1, h2, w, h3, h4, h5]
  show _ = _
  kernel_rfl

/-! ### equality is an equivalence -/
theorem get_of {N : List Nd} {a : Int} (h0 : 0 ≤ a) (h1 : a < N.length) : ∃ x, N[a.toNat]? = some x := ⟨_, List.getElem?_eq_getElem (by omega)⟩
theorem kIdx_self {x : Nd} (h : NS x) {i : Nat} (hi : i < x.next.length) : kIdx x x i = some i := by
  unfold kIdx
  by_cases h0 : x.labels.length = 0
  · rw [if_pos h0]
  · rw [if_neg h0]
    have hl : x.next.length = x.labels.length := by
      have h1 := h.low
      by_cases h3 : x.kind ≤ 3
      · rw [(h.leaf h3).2.1] at h0; exact absurd rfl h0
      · by_cases h4 : x.kind = 4 ∨ x.kind = 5
        · rw [(h.send h4).1] at h0; exact absurd rfl h0
        · exact (h.sel (by omega)).2
    have hk : x.labels[i]? = some (x.labels[i]'(by omega)) := List.getElem?_eq_getElem _
    rw [hk]
    exact idx_nodup h.nodup hk
theorem eqp_refl {N : List Nd} {B : Int} (hG : GOk N B) (free : Bool) {a : Int} (h0 : 0 ≤ a) (h1 : a < N.length) : EqP N free (a, a, 0) := by
  refine ⟨fun q => ∃ i, 0 ≤ i ∧ i < (N.length : Int) ∧ q = (i, i, 0), fun q hq => ?_, a, h0, h1, rfl⟩
  obtain ⟨i, i0, i1, rfl⟩ := hq
  obtain ⟨x, hx⟩ := get_of i0 i1
  have hm := List.mem_of_getElem? hx
  refine ⟨x, x, i0, i0, hx, hx, rfl, rfl, fun _ _ => by dsimp only; omega, fun j r hr => ⟨j, r, kIdx_self (hG.ns x hm) (List.getElem?_eq_some_iff.1 hr).1, hr, ?_⟩⟩
  have := hG.refs x hm r (List.mem_of_getElem? hr)
  refine ⟨r.node, this.1, this.2, ?_⟩
  dsimp only
  unfold ndf
  split
  · rfl
  · rw [show (0 : Int) + r.shift - r.shift = 0 by omega]
/-- lists without doubles, one inside the other, of one length -/
theorem nodup_cover : ∀ {l m : List (List UInt8)}, l.Nodup → (∀ x ∈ l, x ∈ m) → m.length ≤ l.length → ∀ x ∈ m, x ∈ l := by
  intro l
  induction l with
  | nil =>
    intro m _ _ hl x hx
    have := List.eq_nil_of_length_eq_zero (l := m) (by simpa using hl)
    rw [this] at hx; cases hx
  | cons y l ih =>
    intro m hd hs hl x hx
    rw [List.nodup_cons] at hd
    by_cases e : x = y
    · rw [e]; exact List.mem_cons_self
    · have hym : y ∈ m := hs y List.mem_cons_self
      have hlen := List.length_erase_of_mem hym
      have := ih (m := m.erase y) hd.2 (fun z hz => by
        have hzy : z ≠ y := fun h => hd.1 (h ▸ hz)
        exact (List.mem_erase_of_ne hzy).2 (hs z (List.mem_cons_of_mem _ hz))) (by rw [List.length_cons] at hl; omega) x ((List.mem_erase_of_ne e).2 hx)
      exact List.mem_cons_of_mem _ this
theorem ns_lab {x : Nd} (h : NS x) (h0 : x.labels.length ≠ 0) : x.next.length = x.labels.length := by
  have h1 := h.low
  by_cases h3 : x.kind ≤ 3
  · rw [(h.leaf h3).2.1] at h0; exact absurd rfl h0
  · by_cases h4 : x.kind = 4 ∨ x.kind = 5
    · rw [(h.send h4).1] at h0; exact absurd rfl h0
    · exact (h.sel (by omega)).2
theorem ns_len {x y : Nd} (hx : NS x) (hy : NS y) (hk : x.kind = y.kind) (hl : x.labels.length = y.labels.length) : x.next.length = y.next.length := by
  have h1 := hx.low
  by_cases h3 : x.kind ≤ 3
  · rw [(hx.leaf h3).1, (hy.leaf (by omega)).1]
  · by_cases h4 : x.kind = 4 ∨ x.kind = 5
    · rw [(hx.send h4).2, (hy.send (by omega)).2]
    · rw [(hx.sel (by omega)).2, (hy.sel (by omega)).2, hl]
/-- the places of two fitting nodes go both ways -/
theorem kIdx_back {x y : Nd} (hx : NS x) (hy : NS y) (hk : x.kind = y.kind) (hl : x.labels.length = y.labels.length) (hf : ∀ i, i < x.next.length → ∃ k, kIdx x y i = some k) {j : Nat} (hj : j < y.next.length) :
    ∃ i, i < x.next.length ∧ kIdx x y i = some j ∧ kIdx y x j = some i := by
  have hn := ns_len hx hy hk hl
  by_cases h0 : x.labels.length = 0
  · refine ⟨j, by omega, ?_, ?_⟩
    · unfold kIdx; rw [if_pos h0]
    · unfold kIdx; rw [if_pos (by omega)]
  · have hxl := ns_lab hx h0
    have hyl := ns_lab hy (by omega)
    have hkj : y.labels[j]? = some (y.labels[j]'(by omega)) := List.getElem?_eq_getElem _
    have hsub : ∀ z ∈ x.labels, z ∈ y.labels := by
      intro z hz
      obtain ⟨i, hi⟩ := List.mem_iff_getElem?.1 hz
      obtain ⟨k, hk'⟩ := hf i (by have := (List.getElem?_eq_some_iff.1 hi).1; omega)
      unfold kIdx at hk'
      rw [if_neg h0, hi] at hk'
      exact List.mem_of_getElem? (idx_get hk')
    have hm := nodup_cover hx.nodup hsub (by omega) _ (List.mem_of_getElem? hkj)
    obtain ⟨i, hi⟩ := List.mem_iff_getElem?.1 hm
    refine ⟨i, by have := (List.getElem?_eq_some_iff.1 hi).1; omega, ?_, ?_⟩
    · unfold kIdx; rw [if_neg h0, hi]; exact idx_nodup hy.nodup hkj
    · unfold kIdx; rw [if_neg (by omega), hkj]; exact idx_nodup hx.nodup hi
theorem ndf_neg (free : Bool) (d : Int) : ndf free (-d) = -ndf free d := by unfold ndf; split <;> simp
theorem eqp_symm {N : List Nd} {B : Int} (hG : GOk N B) {free : Bool} {a b d : Int} (h : EqP N free (a, b, d)) : EqP N free (b, a, -d) := by
  refine ⟨fun q => EqP N free (q.2.1, q.1, -q.2.2), fun q hq => ?_, by dsimp only; rw [Int.neg_neg]; exact h⟩
  obtain ⟨a, b, d⟩ := q
  dsimp only at hq
  obtain ⟨x, y, h1, h2, h3, h4, h5, h6, h7, h8⟩ := hq.loc
  dsimp only at h1 h2 h3 h4 h7 h8
  have hxm := hG.ns x (List.mem_of_getElem? h3)
  have hym := hG.ns y (List.mem_of_getElem? h4)
  refine ⟨y, x, h2, h1, h4, h3, h5.symm, h6.symm, fun hf ha => ?_, fun j r hr => ?_⟩
  · have := h7 hf (by rw [h5]; exact ha); dsimp only; omega
  · obtain ⟨i, hi, k1, k2⟩ := kIdx_back hxm hym h5 h6 (fun i hi => by
      obtain ⟨k, q, hk, _⟩ := h8 i _ (List.getElem?_eq_getElem hi)
      exact ⟨k, hk⟩) (List.getElem?_eq_some_iff.1 hr).1
    obtain ⟨k, q, hk, hq, hE⟩ := h8 i _ (List.getElem?_eq_getElem hi)
    rw [k1] at hk
    injection hk with hk
    subst hk
    rw [hr] at hq
    injection hq with hq
    subst hq
    refine ⟨i, _, k2, List.getElem?_eq_getElem hi, ?_⟩
    show EqP N free (_, _, _)
    dsimp only
    rw [← ndf_neg]
    rw [show -(d + r.shift - x.next[i].shift) = -d + x.next[i].shift - r.shift by omega]
    exact hE
theorem ndf_add (free : Bool) (d e : Int) : ndf free d + ndf free e = ndf free (d + e) := by unfold ndf; split <;> simp
theorem eqp_trans {N : List Nd} {free : Bool} {a b c d e : Int} (h : EqP N free (a, b, d)) (k : EqP N free (b, c, e)) : EqP N free (a, c, d + e) := by
  refine ⟨fun q => ∃ m d e, EqP N free (q.1, m, d) ∧ EqP N free (m, q.2.1, e) ∧ q.2.2 = d + e, fun q hq => ?_, b, d, e, h, k, rfl⟩
  obtain ⟨a, c, f⟩ := q
  obtain ⟨b, d, e, h, k, hf⟩ := hq
  dsimp only at h k hf
  subst hf
  obtain ⟨x, y, h1, h2, h3, h4, h5, h6, h7, h8⟩ := h.loc
  obtain ⟨y', z, k1, k2, k3, k4, k5, k6, k7, k8⟩ := k.loc
  dsimp only at h1 h2 h3 h4 h7 h8 k1 k2 k3 k4 k7 k8
  rw [h4] at k3
  injection k3 with k3
  subst k3
  refine ⟨x, z, h1, k2, h3, k4, h5.trans k5, h6.trans k6, fun hf ha => ?_, fun i r hr => ?_⟩
  · have e1 := h7 hf ha
    have e2 := k7 hf (by rw [← h5]; exact ha)
    dsimp only; omega
  · obtain ⟨j, q, m1, m2, m3⟩ := h8 i r hr
    obtain ⟨l, s, n1, n2, n3⟩ := k8 j q m2
    refine ⟨l, s, ?_, n2, q.node, _, _, m3, n3, ?_⟩
    · unfold kIdx at m1 n1 ⊢
      by_cases h0 : x.labels.length = 0
      · rw [if_pos h0] at m1 ⊢
        rw [if_pos (by omega)] at n1
        injection m1 with m1
        subst m1; exact n1
      · rw [if_neg h0] at m1 ⊢
        rw [if_neg (by omega)] at n1
        cases hl : x.labels[i]? with
        | none => rw [hl] at m1; cases m1
        | some lb =>
          rw [hl] at m1
          dsimp only at m1 ⊢
          rw [idx_get m1] at n1
          exact n1
    · dsimp only
      rw [ndf_add]
      congr 1
      omega
/-- equal references are alike -/
theorem eqp_alike {N : List Nd} {a b d : Int} (h : EqP N false (a, b, d)) : EqP N true (a, b, 0) := by
  refine ⟨fun q => ∃ d, EqP N false (q.1, q.2.1, d) ∧ q.2.2 = 0, fun q hq => ?_, d, h, rfl⟩
  obtain ⟨a, b, z⟩ := q
  obtain ⟨d, h, hz⟩ := hq
  dsimp only at h hz
  subst hz
  obtain ⟨x, y, h1, h2, h3, h4, h5, h6, h7, h8⟩ := h.loc
  refine ⟨x, y, h1, h2, h3, h4, h5, h6, (fun h => by cases h), fun i r hr => ?_⟩
  obtain ⟨j, q, m1, m2, m3⟩ := h8 i r hr
  exact ⟨j, q, m1, m2, _, m3, by unfold ndf; rw [if_pos rfl]⟩
end Go.Proofs.Ytijfioakpngdhaa
