/- The seat's functions that the machine takes by contract. -/
import Derived.Test.YtijfioakpngdhaaF
import Derived.Test.YtijfioakpngdhaaMC
namespace Go.Proofs.Ytijfioakpngdhaa
open Go.V
set_option maxRecDepth 100000
set_option linter.unusedSimpArgs false
set_option linter.unusedVariables false

theorem mixed : Try.prog.follows .mixedOrders = true := by kernel_rfl
def entersB (P : Program) (f : Nat) : Bool :=
  match P.funcs[f]? with
  | some fn => !(fn.name == "runtime.NumGoroutine") && !fn.body.isNone
  | none => false
theorem enters_of {P : Program} {f : Nat} (h : entersB P f = true) : Enters P f := by
  unfold entersB at h
  cases hf : P.funcs[f]? with
  | none => rw [hf] at h; cases h
  | some fn =>
    rw [hf] at h
    simp only [Bool.and_eq_true, Bool.not_eq_true'] at h
    exact ⟨fn, hf, h.1, h.2⟩
theorem enters_all : ((List.range tbl.length).all fun f => (vf f).isNone || entersB Try.prog f) = true := by kernel_rfl
theorem enters_vf (f : Nat) (fn : VFn) (h : vf f = some fn) : Enters Try.prog f := by
  by_cases hf : f < tbl.length
  · have := List.all_eq_true.1 enters_all f (List.mem_range.2 hf)
    rw [h] at this
    exact enters_of (by simpa using this)
  · unfold vf at h
    rw [List.getElem?_eq_none (by omega)] at h
    cases h

/-- slices.Clone -/
def cloneE (sz bytes : Nat) (args : List AV) (ob : Objs) : Option (AV × Objs) :=
  match args, ob with
  | [.d (.sl s xs)], [] => need (Nat.beq s sz && (sizesOk sz xs && decide (xs.length * bytes ≤ 140737488355328))) (some (.own 0, [(0, some (.arr sz xs true))]))
  | _, _ => none
theorem clone_inv {sz bytes : Nat} {args : List AV} {ob : Objs} {r : AV × Objs} (h : cloneE sz bytes args ob = some r) : ∃ xs, args = [.d (.sl sz xs)] ∧ ob = [] ∧ sizesOk sz xs = true ∧ xs.length * bytes ≤ 140737488355328 ∧ r = (.own 0, [(0, some (.arr sz xs true))]) := by
  unfold cloneE at h
  split at h
  · rename_i s xs
    obtain ⟨h1, h2⟩ := need_some h
    simp only [Bool.and_eq_true, decide_eq_true_eq] at h1
    injection h2 with h2
    have := Nat.eq_of_beq_eq_true h1.1
    subst this
    exact ⟨xs, rfl, rfl, h1.2.1, h1.2.2, h2.symm⟩
  · cases h
def noCall : CallT := fun _ _ _ => none
theorem noCallee : V.Callee gl Try.prog att noCall := fun _ _ _ _ h => by cases h
@[go_sem] theorem y_toDnn (ob : Objs) (b : Bool) (sz : Nat) (xs : List V.Data) : AV.toD ob (.nn b sz xs) = some (.sl sz xs) := rfl
@[go_sem] theorem y_ownnn (b : Bool) (sz : Nat) (xs : List V.Data) : (AV.nn b sz xs).ownNames = [] := rfl
@[go_sem] theorem y_appR (sz bytes base : Nat) (ob : Objs) (x : AV) (yn : List Nat) (s : Nat) (ys : List V.Data) : appR sz bytes base ob x yn (some (.sl s ys)) = need (sizesOk sz ys) (appX sz bytes base ys yn ob x) := nr rfl
@[go_sem] theorem y_appX_o (sz bytes base : Nat) (ob : Objs) (o : Nat) (yn : List Nat) (ys : List V.Data) : appX sz bytes base ys yn ob (.own o) = appOwn sz bytes base o ys yn (oget ob o) := nr rfl
@[go_sem] theorem y_appOwn (sz bytes base o : Nat) (yn : List Nat) (ys : List V.Data) (sz' : Nat) (xs : List V.Data) (u : Bool) : appOwn sz bytes base o ys yn (some (.arr sz' xs u)) =
    need (Nat.beq sz sz' && (decide ((xs.length + ys.length) * bytes ≤ 140737488355328) && !mem o yn)) (some ⟨.own base, [(base, some (.arr sz (xs ++ ys) u)), (o, none)], o :: yn⟩) := nr rfl
@[go_sem] theorem y_bslice (sz base : Nat) (vs : List AV) (ob : Objs) : bsliceR sz base vs ob = obind (allSome (AV.toData ob) vs) fun xs => need (sizesOk sz xs) (some ⟨.own base, (base, some (.arr sz xs true)) :: shareUpd ob (sharedL vs), sharedL vs⟩) := nr rfl
end Go.Proofs.Ytijfioakpngdhaa

namespace Go.Proofs.Ytijfioakpngdhaa
open Go.V
attribute [go_sem] Int.reduceLE Int.reduceLT Int.reduceEq Int.reduceAdd Int.reduceSub Int.reduceNeg Int.reduceToNat Int.toNat_zero Int.toNat_one Nat.reduceSub Nat.reduceMul Nat.reduceLT Nat.reduceEqDiff Int.reduceNe Int.natCast_inj List.getElem?_cons_zero List.getElem?_cons_succ ne_eq Bool.and_self Bool.or_self Bool.not_eq_true Bool.decide_eq_true eq_self
@[go_sem] theorem cast0 : ((0 : Nat) : Int) = 0 := rfl
@[go_sem] theorem cast1 : ((1 : Nat) : Int) = 1 := rfl
@[go_sem] theorem cast2 : ((2 : Nat) : Int) = 2 := rfl
@[go_sem] theorem cast3 : ((3 : Nat) : Int) = 3 := rfl
@[go_sem] theorem cast4 : ((4 : Nat) : Int) = 4 := rfl
@[go_sem] theorem cast5 : ((5 : Nat) : Int) = 5 := rfl
@[go_sem] theorem cast6 : ((6 : Nat) : Int) = 6 := rfl
@[go_sem] theorem cast7 : ((7 : Nat) : Int) = 7 := rfl
@[go_sem] theorem cast8 : ((8 : Nat) : Int) = 8 := rfl
@[go_sem] theorem cast9 : ((9 : Nat) : Int) = 9 := rfl
@[go_sem] theorem cast10 : ((10 : Nat) : Int) = 10 := rfl
end Go.Proofs.Ytijfioakpngdhaa

namespace Go.Proofs.Ytijfioakpngdhaa
open Go.V
def ext : ExtT := fun _ => none
theorem ext_ok (f : Nat) (e : List AV → Objs → Option (AV × Objs)) (h : ext f = some e) (args : List AV) (ob : Objs) (r : AV × Objs) (_ : e args ob = some r) : Enters Try.prog f ∧ CallOK gl Try.prog (att f).ro f args ob r := by cases h
noncomputable abbrev RW : CallT := runW vf att ext
noncomputable abbrev LW : LoopT := loopW vf att ext
/-- what the machine's limit tells, the program does -/
theorem rw_ok : V.Callee gl Try.prog att RW := runW_ok mixed vf_ok enters_vf ext_ok
/-- a loop that ends: P holds at each head, Q at the end -/
theorem loop_p {keep : List Nat} {c : VC} {I : Nat → St} {n : Nat} {P : Nat → Prop} {Q : Out × St → Prop}
    (hs : ∀ i, i < n → P i → (∃ s, exec att RW LW c (I i) = some (.normal, s) ∧ norm keep s = I (i + 1) ∧ P (i + 1)) ∨ (∃ e, exec att RW LW c (I i) = some e ∧ e.1 ≠ .normal ∧ Q e))
    (he : P n → ∃ e, exec att RW LW c (I n) = some e ∧ e.1 ≠ .normal ∧ Q e) : ∀ k i, i + k = n → P i → ∃ e, LW keep c (I i) = some e ∧ Q e
  | 0, i, h, hp => by
    have : i = n := by omega
    subst this
    obtain ⟨e, h1, h2, h3⟩ := he hp
    exact ⟨e, loopW_out1 h1 h2, h3⟩
  | k + 1, i, h, hp => by
    rcases hs i (by omega) hp with ⟨s, h1, h2, h2p⟩ | ⟨e, h1, h2, h3⟩
    · obtain ⟨e, h3, h4⟩ := loop_p hs he k (i + 1) (by omega) h2p
      exact ⟨e, loopW_next h1 (by rw [h2]; exact h3), h4⟩
    · exact ⟨e, loopW_out1 h1 h2, h3⟩
/-- a loop's end: the function's own objects are none -/
def QE (P1 : Fr → Prop) (id : Nat) (P2 : Fr → Prop) (e : Out × St) : Prop := (e.1 = .exit id ∧ P1 e.2.fr ∨ e.1 = .ret ∧ P2 e.2.fr) ∧ e.2.m = 0 ∧ e.2.ro = false
theorem QE.out {P1 P2 : Fr → Prop} {id : Nat} {e : Out × St} (h : QE P1 id P2 e) : (∃ fr ob nx, e = (.exit id, ⟨fr, ob, nx, 0, false⟩) ∧ P1 fr) ∨ (∃ fr ob nx, e = (.ret, ⟨fr, ob, nx, 0, false⟩) ∧ P2 fr) := by
  obtain ⟨o, fr, ob, nx, m, ro⟩ := e
  obtain ⟨h1, h2, h3⟩ := h
  dsimp only at h1 h2 h3
  subst h2; subst h3
  rcases h1 with ⟨h1, h4⟩ | ⟨h1, h4⟩
  · subst h1; exact .inl ⟨fr, ob, nx, rfl, h4⟩
  · subst h1; exact .inr ⟨fr, ob, nx, rfl, h4⟩
end Go.Proofs.Ytijfioakpngdhaa
