/- PROVED HERE: EqualOffsets, the second form (Rows.EqualOffsetsUptoSaid): for every input whose readings are of bulk at most 1048576 the law returns true, and each argument reads as it did. -/
import Derived.Test.YtijfioakpngdhaaMN
import Derived.Test.YtijfioakpngdhaaGZ
import Derived.WalkKit
import Derived.ProofKit
import Derived.OpenShut
import Derived.Carry
import Derived.JoinedCond
namespace Go.Proofs.Ytijfioakpngdhaa
open Go.ChangeShapes Go.WideShapes Go.ChangeAt Go.RowKit
set_option linter.unusedVariables false
set_option linter.unusedSimpArgs false
set_option maxRecDepth 100000

section
open Go.V
def gh0 : Gh := ⟨fun _ => none, fun _ => 0, fun _ _ => True⟩
theorem good0 (W : World) (U : Nat → Prop) : V.Good W gh0 [] U :=
  ⟨(fun o x h => by cases h), (fun o o' x x' b h => by cases h), (fun o x h => by cases h), (fun _ _ _ => trivial), (fun o x b h => by cases h)⟩
theorem all0 (W : World) : ∀ b off, (cx W gh0 []).S b off := fun b off => ⟨trivial, fun h => by obtain ⟨o, x, h, _⟩ := h; cases h⟩
/-- A LAW THAT THE MACHINE ANSWERS true, THE PROGRAM DOES, and it leaves the memory that was there. -/
theorem law_ok {f : Nat} {args : List AV} {vals : List Value} (hrun : RW f args [] = some (.d (.bool true), [])) (W : World) (ha : VReps (cx W gh0 []) args vals) (hn : namesL args = []) (hgl : GlobOk gl W (cx W gh0 []).S) :
    Calls Try.prog f vals.toArray W fun e W' => e = .returned (.bool true) ∧ Below W.heap.size W W' := by
  refine ((rw_ok f args [] _ hrun).2 W gh0 vals (good0 W _) ha (by rw [hn]; intro o ho; cases ho) hgl).mono ?_
  rintro e W' ⟨v, rfl, g', _, hv, hs, _⟩
  have hv' : v = .bool true := hv
  subst hv'
  exact ⟨rfl, hs.os, hs.tape, hs.output, hs.size, fun k hk => hs.chg k hk fun o _ ho => absurd rfl ho⟩
end

theorem own : ownKnob Try.prog.godebug = none := by kernel_rfl
theorem laidOut : laidOutB Try.prog = true := by kernel_rfl
theorem glob_ok (W : World) : Go.V.GlobOk gl W (Go.V.cx W gh0 []).S := fun g cs hg => by cases hg
theorem u8_wf {n : Int} (h : (Lit.int .u8 n).wf = true) : 0 ≤ n ∧ n < 256 := by
  have h' : (decide ((IntKind.u8).min ≤ n) && decide (n ≤ (IntKind.u8).max)) = true := h
  simp only [Bool.and_eq_true, decide_eq_true_eq] at h'
  have e1 : (IntKind.u8).min = 0 := by decide
  have e2 : (IntKind.u8).max = 255 := by decide
  rw [e1, e2] at h'
  omega
theorem i16_wf {n : Int} (h : (Lit.int .i16 n).wf = true) : -32768 ≤ n ∧ n < 32768 := by
  have h' : (decide ((IntKind.i16).min ≤ n) && decide (n ≤ (IntKind.i16).max)) = true := h
  simp only [Bool.and_eq_true, decide_eq_true_eq] at h'
  have e1 : (IntKind.i16).min = -32768 := by decide
  have e2 : (IntKind.i16).max = 32767 := by decide
  rw [e1, e2] at h'
  omega

theorem contract (H : Type) (enc : TypeId × Value → H) (W : World) (base : Nat) (args : Array Value) (ds gs : List (DataW H)) (before : List MemPlace)
    (hval0 : ∀ (j : Nat) t v, Try.f4.params[j]? = some t → args[j]? = some v → Value.okWide Try.prog W .any base t v)
    (hW : DataW.Whole enc Try.prog Try.f4.params.toList Rows.equalOffsetsSpec.vars false W args.toList ds gs before) (hk : Rows.uptoSmall H (ds ++ gs) = true) :
    Calls Try.prog 4 args W fun e W' => ∃ v, e = .returned v ∧ Rows.equalOffsetsSpec.post enc Try.prog Try.f4 false true false false W args v W' := by
  have hval := hval0
  have hW' := hW
  obtain ⟨p, q, hA0, hV, rfl, hfz, hnd⟩ := hW
  have hA : DataW.TrodAll enc Try.prog W 0 (fun _ => true) true Try.f4.params.toList args.toList ds p := hA0
  rw [Try.params4] at hA hval
  obtain ⟨v0, vs0, d0, ds0, p0, q0, hargs, rfl, rfl, h0, r0⟩ := trodAll_cons hA
  obtain ⟨v1, vs1, d1, ds1, p1, q1, rfl, rfl, rfl, h1, r1⟩ := trodAll_cons r0
  obtain ⟨v2, vs2, d2, ds2, p2, q2, rfl, rfl, rfl, h2, r2⟩ := trodAll_cons r1
  obtain ⟨rfl, rfl, rfl⟩ := trodAll_nil r2
  obtain rfl : args = #[v0, v1, v2] := by cases args; simp_all
  obtain ⟨rfl, rfl⟩ := trodVars_none hV
  obtain ⟨k2, rfl, rfl, rfl, w2⟩ := open_int Try.underlying26 (hval 2 26 v2 rfl rfl) h2
  have lt0 : ∀ x ∈ p0, x.block < W.heap.size := by obtain ⟨m, hm⟩ := h0; exact DataW.trod_lt m _ _ _ hm
  have hbulk0 : Rows.uptoBulk d0 ≤ 1048576 := by
    have := of_decide_eq_true hk
    simp only [List.cons_append, List.nil_append, Rows.uptoBulkAll] at this
    omega
  obtain ⟨t0, t0b, c0⟩ := read_T (W := W) (S := (Go.V.cx W gh0 []).S) (all0 W) (hval 0 25 v0 rfl rfl) h0 hbulk0
  have lt1 : ∀ x ∈ p1, x.block < W.heap.size := by obtain ⟨m, hm⟩ := h1; exact DataW.trod_lt m _ _ _ hm
  have hbulk1 : Rows.uptoBulk d1 ≤ 1048576 := by
    have := of_decide_eq_true hk
    simp only [List.cons_append, List.nil_append, Rows.uptoBulkAll] at this
    omega
  obtain ⟨t1, t1b, c1⟩ := read_T (W := W) (S := (Go.V.cx W gh0 []).S) (all0 W) (hval 1 25 v1 rfl rfl) h1 hbulk1
  have hrun := equalOffsets_run t0 t1 k2 t0b t1b (i16_wf w2)
  clear hA0
  simp only [List.append_nil] at hW'
  refine (law_ok (vals := [v0, v1, .int .i16 k2]) hrun W ⟨_, _, rfl, c0, _, _, rfl, c1, _, _, rfl, rfl, rfl⟩ rfl (glob_ok W)).mono fun e W' ⟨he, bel⟩ => ?_
  subst he
  exact ⟨_, rfl, _, _, _, [], _, [], hW', trodAll_mk1 (shut_bool Try.underlying4 _),
    (trodAll_cons_mk (Below.trod laidOut (by kernel_rfl) (of_decide_eq_true (by kernel_rfl)) h0 bel lt0) (trodAll_cons_mk (Below.trod laidOut (by kernel_rfl) (of_decide_eq_true (by kernel_rfl)) h1 bel lt1) (trodAll_cons_mk (shut_int Try.underlying26 w2) trodAll_mk0))), rfl, bel.frame _, fun h => by cases h⟩
theorem lifted (os : Os) (started : os.Started) (H : Type) (enc : TypeId × Value → H) (F : Stop.Interp) :
    ReturnsInHanded {} Try.checked os 4 .any ((Rows.OpenSpec.upto Rows.equalOffsetsSpec).pre6 enc Try.prog Try.f4 Rows.equalOffsetsUptoRow.domain false) (((Rows.OpenSpec.upto Rows.equalOffsetsSpec).at F).post enc Try.prog Try.f4 false true false false) := by
  refine returnsInHanded_of_cond (C := Try.checked) (s := Rows.OpenSpec.upto Rows.equalOffsetsSpec) (k := Rows.uptoSmall) rfl own started (by kernel_rfl) Try.func4
    (OpenSpec.witness (enc := enc) (C := Try.checked) (s := Rows.OpenSpec.upto Rows.equalOffsetsSpec) (k := Rows.uptoSmall) rfl false ⟨#[], #[.agg #[.int .i64 0, .int .i64 0, .string ⟨#[]⟩, .int .i64 0, .slice none 0 0, .slice none 0 0], .agg #[.int .i64 0, .int .i64 0, .string ⟨#[]⟩, .int .i64 0, .slice none 0 0, .slice none 0 0], .int .i16 0], []⟩ 8 (by kernel_rfl) (by kernel_rfl) (by kernel_rfl)
      (x := ([.agg [.lit (.int .i64 0), .lit (.int .i64 0), .lit (.string []), .lit (.int .i64 0), .nil, .nil], .agg [.lit (.int .i64 0), .lit (.int .i64 0), .lit (.string []), .lit (.int .i64 0), .nil, .nil], .lit (.int .i16 0)], [], [])) (by kernel_rfl) rfl (by kernel_rfl)) ?_
  intro W base args ds gs before hval hW _ hk _
  exact contract H enc W base args ds gs before hval hW hk
theorem equalOffsets_said : Rows.EqualOffsetsUptoSaid :=
  OpenClaim.holds_of_cond 4 Try.f4 rfl rfl rfl rfl rfl rfl rfl ⟨rfl, rfl, rfl, rfl, rfl⟩ rfl rfl rfl rfl rfl (by kernel_rfl) Try.func4 (by kernel_rfl)
    (of_decide_eq_true (by kernel_rfl)) (by unfold Func.isWrapper; first | (rw [if_pos (by decide +kernel)]; kernel_rfl) | (rw [if_neg (by decide +kernel)]; exact ⟨rfl, rfl⟩))
    (fun os started H enc _ F => lifted os started H enc F)
#print axioms equalOffsets_said
end Go.Proofs.Ytijfioakpngdhaa
