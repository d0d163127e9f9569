/- The seat's functions that the machine takes by contract. -/
import Derived.Test.YtijfioakpngdhaaDoorF
import Derived.Test.YtijfioakpngdhaaDoorMC
import Derived.WalkKit
import Derived.ProofKit
namespace Go.Proofs.YtijfioakpngdhaaDoor
open Go.V
set_option maxRecDepth 100000
set_option linter.unusedSimpArgs false
set_option linter.unusedVariables false

theorem mixed : Tryd.prog.follows .mixedOrders = true := by kernel_rfl
def entersB (P : Program) (f : Nat) : Bool :=
  match P.funcs[f]? with
  | some fn => !(fn.name == "runtime.NumGoroutine") && !fn.body.isNone
  | none => false
theorem enters_of {P : Program} {f : Nat} (h : entersB P f = true) : Enters P f := by
  unfold entersB at h
  cases hf : P.funcs[f]? with
  | none => rw [hf] at h; cases h
  | some fn =>
    rw [hf] at h
    simp only [Bool.and_eq_true, Bool.not_eq_true'] at h
    exact ⟨fn, hf, h.1, h.2⟩
theorem enters_all : ((List.range tbl.length).all fun f => (vf f).isNone || entersB Tryd.prog f) = true := by kernel_rfl
theorem enters_vf (f : Nat) (fn : VFn) (h : vf f = some fn) : Enters Tryd.prog f := by
  by_cases hf : f < tbl.length
  · have := List.all_eq_true.1 enters_all f (List.mem_range.2 hf)
    rw [h] at this
    exact enters_of (by simpa using this)
  · unfold vf at h
    rw [List.getElem?_eq_none (by omega)] at h
    cases h

/-- slices.Clone -/
def cloneE (sz bytes : Nat) (args : List AV) (ob : Objs) : Option (AV × Objs) :=
  match args, ob with
  | [.d (.sl s xs)], [] => need (Nat.beq s sz && (sizesOk sz xs && decide (xs.length * bytes ≤ 140737488355328))) (some (.own 0, [(0, some (.arr sz xs true))]))
  | _, _ => none
theorem clone_inv {sz bytes : Nat} {args : List AV} {ob : Objs} {r : AV × Objs} (h : cloneE sz bytes args ob = some r) : ∃ xs, args = [.d (.sl sz xs)] ∧ ob = [] ∧ sizesOk sz xs = true ∧ xs.length * bytes ≤ 140737488355328 ∧ r = (.own 0, [(0, some (.arr sz xs true))]) := by
  unfold cloneE at h
  split at h
  · rename_i s xs
    obtain ⟨h1, h2⟩ := need_some h
    simp only [Bool.and_eq_true, decide_eq_true_eq] at h1
    injection h2 with h2
    have := Nat.eq_of_beq_eq_true h1.1
    subst this
    exact ⟨xs, rfl, rfl, h1.2.1, h1.2.2, h2.symm⟩
  · cases h
def noCall : CallT := fun _ _ _ => none
theorem noCallee : V.Callee gl Tryd.prog att noCall := fun _ _ _ _ h => by cases h
@[go_sem] theorem y_toDnn (ob : Objs) (b : Bool) (sz : Nat) (xs : List V.Data) : AV.toD ob (.nn b sz xs) = some (.sl sz xs) := rfl
@[go_sem] theorem y_ownnn (b : Bool) (sz : Nat) (xs : List V.Data) : (AV.nn b sz xs).ownNames = [] := rfl
@[go_sem] theorem y_appR (sz bytes base : Nat) (ob : Objs) (x : AV) (yn : List Nat) (s : Nat) (ys : List V.Data) : appR sz bytes base ob x yn (some (.sl s ys)) = need (sizesOk sz ys) (appX sz bytes base ys yn ob x) := nr rfl
@[go_sem] theorem y_appX_o (sz bytes base : Nat) (ob : Objs) (o : Nat) (yn : List Nat) (ys : List V.Data) : appX sz bytes base ys yn ob (.own o) = appOwn sz bytes base o ys yn (oget ob o) := nr rfl
@[go_sem] theorem y_appOwn (sz bytes base o : Nat) (yn : List Nat) (ys : List V.Data) (sz' : Nat) (xs : List V.Data) (u : Bool) : appOwn sz bytes base o ys yn (some (.arr sz' xs u)) =
    need (Nat.beq sz sz' && (decide ((xs.length + ys.length) * bytes ≤ 140737488355328) && !mem o yn)) (some ⟨.own base, [(base, some (.arr sz (xs ++ ys) u)), (o, none)], o :: yn⟩) := nr rfl
@[go_sem] theorem y_bslice (sz base : Nat) (vs : List AV) (ob : Objs) : bsliceR sz base vs ob = obind (allSome (AV.toData ob) vs) fun xs => need (sizesOk sz xs) (some ⟨.own base, (base, some (.arr sz xs true)) :: shareUpd ob (sharedL vs), sharedL vs⟩) := nr rfl
end Go.Proofs.YtijfioakpngdhaaDoor

namespace Go.Proofs.YtijfioakpngdhaaDoor
open Go.V
set_option maxRecDepth 100000
set_option linter.unusedSimpArgs false
set_option linter.unusedVariables false

theorem clone37 (xs : List V.Data) (h1 : sizesOk 1 xs = true) (h2 : xs.length * 16 ≤ 140737488355328) : CallOK gl Tryd.prog false 37 [.d (.sl 1 xs)] [] (.own 0, [(0, some (.arr 1 xs true))]) := by
  have h2' := decide_eq_true h2
  refine CallOK.slice (fun hx => ?_) ?_
  · subst hx
    refine runFn_ok (k := 0) mixed noCallee c37_eq ?_
    unfold runFn c37
    simp only [go_sem]
    show _ = _
    kernel_rfl
  · refine runFn_ok (k := 0) mixed noCallee c37_eq ?_
    unfold runFn c37
    simp only [go_sem, h1, h2', sizesOk, sharedL, shareUpd, mem, List.nil_append]
    show _ = _
    kernel_rfl
theorem clone38 (xs : List V.Data) (h1 : sizesOk 2 xs = true) (h2 : xs.length * 16 ≤ 140737488355328) : CallOK gl Tryd.prog false 38 [.d (.sl 2 xs)] [] (.own 0, [(0, some (.arr 2 xs true))]) := by
  have h2' := decide_eq_true h2
  refine CallOK.slice (fun hx => ?_) ?_
  · subst hx
    refine runFn_ok (k := 0) mixed noCallee c38_eq ?_
    unfold runFn c38
    simp only [go_sem]
    show _ = _
    kernel_rfl
  · refine runFn_ok (k := 0) mixed noCallee c38_eq ?_
    unfold runFn c38
    simp only [go_sem, h1, h2', sizesOk, sharedL, shareUpd, mem, List.nil_append]
    show _ = _
    kernel_rfl
end Go.Proofs.YtijfioakpngdhaaDoor

namespace Go.Proofs.YtijfioakpngdhaaDoor
open Go.ChangeShapes Go.WideShapes Go.ChangeAt Go.RowKit
set_option linter.unusedVariables false
set_option linter.unusedSimpArgs false
def kindD (n : Int) : Int := if n = 4 then 5 else if n = 5 then 4 else if n = 6 then 7 else if n = 7 then 6 else n
theorem kind_lo (w : World) (n : Int) (h : n < 1) : Calls Tryd.prog 17 #[.int .i64 n] w fun e w' => e = .returned (.int .i64 n) ∧ w' = w := by
  go_enter Tryd.func17, Tryd.ntmps17
  go_wp2
  all_goals go_ret
  all_goals exact ⟨rfl, rfl⟩
theorem kind_hi (w : World) (n : Int) (h0 : ¬ n < 1) (h : 8 ≤ n) : Calls Tryd.prog 17 #[.int .i64 n] w fun e w' => e = .returned (.int .i64 n) ∧ w' = w := by
  go_enter Tryd.func17, Tryd.ntmps17
  go_wp2
  all_goals go_ret
  all_goals exact ⟨rfl, rfl⟩
theorem kind_1 (w : World) (v : Value) (h : w.cell? ⟨0, 1, none⟩ = some v) : Calls Tryd.prog 17 #[.int .i64 1] w fun e w' => e = .returned v ∧ w' = w := by
  go_enter Tryd.func17, Tryd.ntmps17
  go_wp2
  all_goals go_ret
  all_goals exact ⟨rfl, rfl⟩
theorem kind_2 (w : World) (v : Value) (h : w.cell? ⟨0, 2, none⟩ = some v) : Calls Tryd.prog 17 #[.int .i64 2] w fun e w' => e = .returned v ∧ w' = w := by
  go_enter Tryd.func17, Tryd.ntmps17
  go_wp2
  all_goals go_ret
  all_goals exact ⟨rfl, rfl⟩
theorem kind_3 (w : World) (v : Value) (h : w.cell? ⟨0, 3, none⟩ = some v) : Calls Tryd.prog 17 #[.int .i64 3] w fun e w' => e = .returned v ∧ w' = w := by
  go_enter Tryd.func17, Tryd.ntmps17
  go_wp2
  all_goals go_ret
  all_goals exact ⟨rfl, rfl⟩
theorem kind_4 (w : World) (v : Value) (h : w.cell? ⟨0, 4, none⟩ = some v) : Calls Tryd.prog 17 #[.int .i64 4] w fun e w' => e = .returned v ∧ w' = w := by
  go_enter Tryd.func17, Tryd.ntmps17
  go_wp2
  all_goals go_ret
  all_goals exact ⟨rfl, rfl⟩
theorem kind_5 (w : World) (v : Value) (h : w.cell? ⟨0, 5, none⟩ = some v) : Calls Tryd.prog 17 #[.int .i64 5] w fun e w' => e = .returned v ∧ w' = w := by
  go_enter Tryd.func17, Tryd.ntmps17
  go_wp2
  all_goals go_ret
  all_goals exact ⟨rfl, rfl⟩
theorem kind_6 (w : World) (v : Value) (h : w.cell? ⟨0, 6, none⟩ = some v) : Calls Tryd.prog 17 #[.int .i64 6] w fun e w' => e = .returned v ∧ w' = w := by
  go_enter Tryd.func17, Tryd.ntmps17
  go_wp2
  all_goals go_ret
  all_goals exact ⟨rfl, rfl⟩
theorem kind_7 (w : World) (v : Value) (h : w.cell? ⟨0, 7, none⟩ = some v) : Calls Tryd.prog 17 #[.int .i64 7] w fun e w' => e = .returned v ∧ w' = w := by
  go_enter Tryd.func17, Tryd.ntmps17
  go_wp2
  all_goals go_ret
  all_goals exact ⟨rfl, rfl⟩
open Go.V
theorem kind17 (n : Int) : CallOK gl Tryd.prog false 17 [.d (.int .i64 n)] [] (.d (.int .i64 (kindD n)), []) := by
  intro w g vals hg ha hn hgl
  obtain ⟨v, vs, rfl, hv, rfl⟩ := ha
  have hv' : v = .int .i64 n := hv
  subst hv'
  have fin : ∀ e w', (e = Ending.returned (.int .i64 (kindD n)) ∧ w' = w) → ∃ v, e = .returned v ∧ Gives w g [] ([] : Objs).length false (.d (.int .i64 (kindD n)), []) v w' := by
    rintro e w' ⟨rfl, rfl⟩
    exact ⟨_, rfl, g, hg.mono fun _ _ => trivial, rfl, Step.refl w' g [] _ _ (fun o ho => absurd rfl ho), fun h => by cases h⟩
  have cell : ∀ j x, [V.Data.int .i64 0, .int .i64 1, .int .i64 2, .int .i64 3, .int .i64 5, .int .i64 4, .int .i64 7, .int .i64 6][j]? = some x → ∃ u, w.cell? ⟨0, j, none⟩ = some u ∧ DRep w (cx w g []).S x u := by
    intro j x hx
    obtain ⟨u, h1, _, h3, _⟩ := hgl 0 _ rfl j x hx
    exact ⟨u, h1, h3⟩
  by_cases h1 : n < 1
  · have e : kindD n = n := by unfold kindD; rw [if_neg (by omega), if_neg (by omega), if_neg (by omega), if_neg (by omega)]
    rw [e] at fin ⊢
    exact (kind_lo w n h1).mono fin
  · by_cases h8 : 8 ≤ n
    · have e : kindD n = n := by unfold kindD; rw [if_neg (by omega), if_neg (by omega), if_neg (by omega), if_neg (by omega)]
      rw [e] at fin ⊢
      exact (kind_hi w n h1 h8).mono fin
    · have : n = 1 ∨ n = 2 ∨ n = 3 ∨ n = 4 ∨ n = 5 ∨ n = 6 ∨ n = 7 := by omega
      rcases this with rfl | rfl | rfl | rfl | rfl | rfl | rfl
      · obtain ⟨u, q1, q2⟩ := cell 1 _ rfl
        have q3 : u = .int .i64 1 := q2
        subst q3; exact (kind_1 w _ q1).mono fin
      · obtain ⟨u, q1, q2⟩ := cell 2 _ rfl
        have q3 : u = .int .i64 2 := q2
        subst q3; exact (kind_2 w _ q1).mono fin
      · obtain ⟨u, q1, q2⟩ := cell 3 _ rfl
        have q3 : u = .int .i64 3 := q2
        subst q3; exact (kind_3 w _ q1).mono fin
      · obtain ⟨u, q1, q2⟩ := cell 4 _ rfl
        have q3 : u = .int .i64 5 := q2
        subst q3; exact (kind_4 w _ q1).mono fin
      · obtain ⟨u, q1, q2⟩ := cell 5 _ rfl
        have q3 : u = .int .i64 4 := q2
        subst q3; exact (kind_5 w _ q1).mono fin
      · obtain ⟨u, q1, q2⟩ := cell 6 _ rfl
        have q3 : u = .int .i64 7 := q2
        subst q3; exact (kind_6 w _ q1).mono fin
      · obtain ⟨u, q1, q2⟩ := cell 7 _ rfl
        have q3 : u = .int .i64 6 := q2
        subst q3; exact (kind_7 w _ q1).mono fin
def kindE (args : List AV) (ob : Objs) : Option (AV × Objs) :=
  match args, ob with
  | [.d (.int .i64 n)], [] => some (.d (.int .i64 (kindD n)), [])
  | _, _ => none
end Go.Proofs.YtijfioakpngdhaaDoor

namespace Go.Proofs.YtijfioakpngdhaaDoor
open Go.V
attribute [go_sem] Int.reduceLE Int.reduceLT Int.reduceEq Int.reduceAdd Int.reduceSub Int.reduceNeg Int.reduceToNat Int.toNat_zero Int.toNat_one Nat.reduceSub Nat.reduceMul Nat.reduceLT Nat.reduceEqDiff Int.reduceNe Int.natCast_inj List.getElem?_cons_zero List.getElem?_cons_succ ne_eq Bool.and_self Bool.or_self Bool.not_eq_true Bool.decide_eq_true eq_self
@[go_sem] theorem cast0 : ((0 : Nat) : Int) = 0 := rfl
@[go_sem] theorem cast1 : ((1 : Nat) : Int) = 1 := rfl
@[go_sem] theorem cast2 : ((2 : Nat) : Int) = 2 := rfl
@[go_sem] theorem cast3 : ((3 : Nat) : Int) = 3 := rfl
@[go_sem] theorem cast4 : ((4 : Nat) : Int) = 4 := rfl
@[go_sem] theorem cast5 : ((5 : Nat) : Int) = 5 := rfl
@[go_sem] theorem cast6 : ((6 : Nat) : Int) = 6 := rfl
@[go_sem] theorem cast7 : ((7 : Nat) : Int) = 7 := rfl
@[go_sem] theorem cast8 : ((8 : Nat) : Int) = 8 := rfl
@[go_sem] theorem cast9 : ((9 : Nat) : Int) = 9 := rfl
@[go_sem] theorem cast10 : ((10 : Nat) : Int) = 10 := rfl
end Go.Proofs.YtijfioakpngdhaaDoor
