/- PROVED HERE: SubtypeLabels, the second form's tied card (Rows.SubtypeLabelsUptoCardSaid): for every input whose readings are of bulk at most 1048576 the law returns true, and each argument reads as it did; the table of dual kinds is tied to the program's text. -/
import Derived.Test.YtijfioakpngdhaaDoorML
import Derived.Test.YtijfioakpngdhaaDoorGZ
import Derived.Test.YtijfioakpngdhaaDoorCards
import Derived.Test.YtijfioakpngdhaaDoorTie
import Derived.WalkKit
import Derived.ProofKit
import Derived.OpenShut
import Derived.Carry
import Derived.JoinedCond
import Derived.Deep.DeepHandedRow
import Derived.Lib.LaidTab
namespace Go.Proofs.YtijfioakpngdhaaDoor
open Go.ChangeShapes Go.WideShapes Go.ChangeAt Go.RowKit
set_option linter.unusedVariables false
set_option linter.unusedSimpArgs false
set_option maxRecDepth 100000

section
open Go.V
def gh0 : Gh := ⟨fun _ => none, fun _ => 0, fun _ _ => True⟩
theorem good0 (W : World) (U : Nat → Prop) : V.Good W gh0 [] U :=
  ⟨(fun o x h => by cases h), (fun o o' x x' b h => by cases h), (fun o x h => by cases h), (fun _ _ _ => trivial), (fun o x b h => by cases h)⟩
theorem all0 (W : World) : ∀ b off, (cx W gh0 []).S b off := fun b off => ⟨trivial, fun h => by obtain ⟨o, x, h, _⟩ := h; cases h⟩
/-- A LAW THAT THE MACHINE ANSWERS true, THE PROGRAM DOES, and it leaves the memory that was there. -/
theorem law_ok {f : Nat} {args : List AV} {vals : List Value} (hrun : RW f args [] = some (.d (.bool true), [])) (W : World) (ha : VReps (cx W gh0 []) args vals) (hn : namesL args = []) (hgl : GlobOk gl W (cx W gh0 []).S) :
    Calls Tryd.prog f vals.toArray W fun e W' => e = .returned (.bool true) ∧ Below W.heap.size W W' := by
  refine ((rw_ok f args [] _ hrun).2 W gh0 vals (good0 W _) ha (by rw [hn]; intro o ho; cases ho) hgl).mono ?_
  rintro e W' ⟨v, rfl, g', _, hv, hs, _⟩
  have hv' : v = .bool true := hv
  subst hv'
  exact ⟨rfl, hs.os, hs.tape, hs.output, hs.size, fun k hk => hs.chg k hk fun o _ ho => absurd rfl ho⟩
end

theorem own : ownKnob Tryd.prog.godebug = none := by kernel_rfl
theorem laidOut : laidOutB Tryd.prog = true := by kernel_rfl
theorem gTab : Tryd.prog.globalNamed "duologue/dual.duals" = some 0 := by kernel_rfl
theorem gTabType : (Tryd.prog.globals[0]?).map (·.type) = some 77 := by kernel_rfl
theorem cellsTab : Tryd.prog.cellsOf 77 = 8 := by kernel_rfl
theorem table {W : World} (h : laidMetH Tryd.prog Rows.subtypeLabelsUptoRow.laid W) : Lib.TabIs Tryd.prog W "duologue/dual.duals" .i64 [0, 1, 2, 3, 5, 4, 7, 6] :=
  Lib.tabIs_of_head (rest := []) gTab gTabType Tryd.underlying77 Tryd.underlying3 cells3 cellsTab h
theorem glob_ok {W : World} (h : Lib.TabIs Tryd.prog W "duologue/dual.duals" .i64 [0, 1, 2, 3, 5, 4, 7, 6]) : Go.V.GlobOk gl W (Go.V.cx W gh0 []).S := by
  intro g cs hg j x hj
  have hc : ∀ i, i < 8 → W.cell? ⟨0, i, none⟩ = some (.int .i64 (([0, 1, 2, 3, 5, 4, 7, 6] : List Int).getD i 0)) := fun i hi => h.cell gTab i hi
  unfold gl at hg
  split at hg
  · injection hg with hg; subst hg
    match j, hj with
    | 0, hj => injection hj with hj; subst hj; exact ⟨_, hc 0 (by decide), all0 W _ _, rfl, rfl⟩
    | 1, hj => injection hj with hj; subst hj; exact ⟨_, hc 1 (by decide), all0 W _ _, rfl, rfl⟩
    | 2, hj => injection hj with hj; subst hj; exact ⟨_, hc 2 (by decide), all0 W _ _, rfl, rfl⟩
    | 3, hj => injection hj with hj; subst hj; exact ⟨_, hc 3 (by decide), all0 W _ _, rfl, rfl⟩
    | 4, hj => injection hj with hj; subst hj; exact ⟨_, hc 4 (by decide), all0 W _ _, rfl, rfl⟩
    | 5, hj => injection hj with hj; subst hj; exact ⟨_, hc 5 (by decide), all0 W _ _, rfl, rfl⟩
    | 6, hj => injection hj with hj; subst hj; exact ⟨_, hc 6 (by decide), all0 W _ _, rfl, rfl⟩
    | 7, hj => injection hj with hj; subst hj; exact ⟨_, hc 7 (by decide), all0 W _ _, rfl, rfl⟩
    | n + 8, hj => cases hj
  · cases hg

theorem u8_wf {n : Int} (h : (Lit.int .u8 n).wf = true) : 0 ≤ n ∧ n < 256 := by
  have h' : (decide ((IntKind.u8).min ≤ n) && decide (n ≤ (IntKind.u8).max)) = true := h
  simp only [Bool.and_eq_true, decide_eq_true_eq] at h'
  have e1 : (IntKind.u8).min = 0 := by decide
  have e2 : (IntKind.u8).max = 255 := by decide
  rw [e1, e2] at h'
  omega
theorem i16_wf {n : Int} (h : (Lit.int .i16 n).wf = true) : -32768 ≤ n ∧ n < 32768 := by
  have h' : (decide ((IntKind.i16).min ≤ n) && decide (n ≤ (IntKind.i16).max)) = true := h
  simp only [Bool.and_eq_true, decide_eq_true_eq] at h'
  have e1 : (IntKind.i16).min = -32768 := by decide
  have e2 : (IntKind.i16).max = 32767 := by decide
  rw [e1, e2] at h'
  omega

theorem contract (H : Type) (enc : TypeId × Value → H) (W : World) (base : Nat) (args : Array Value) (ds gs : List (DataW H)) (before : List MemPlace)
    (hval0 : ∀ (j : Nat) t v, Tryd.f8.params[j]? = some t → args[j]? = some v → Value.okWide Tryd.prog W .any base t v)
    (hW : DataW.Whole enc Tryd.prog Tryd.f8.params.toList Rows.subtypeLabelsSpec.vars false W args.toList ds gs before) (hk : Rows.uptoSmall H (ds ++ gs) = true) (hL : laidMetH Tryd.prog Rows.subtypeLabelsUptoRow.laid W) :
    Calls Tryd.prog 8 args W fun e W' => ∃ v, e = .returned v ∧ Rows.subtypeLabelsSpec.post enc Tryd.prog Tryd.f8 false true false false W args v W' := by
  have hval := hval0
  have hW' := hW
  obtain ⟨p, q, hA0, hV, rfl, hfz, hnd⟩ := hW
  have hA : DataW.TrodAll enc Tryd.prog W 0 (fun _ => true) true Tryd.f8.params.toList args.toList ds p := hA0
  rw [Tryd.params8] at hA hval
  obtain ⟨v0, vs0, d0, ds0, p0, q0, hargs, rfl, rfl, h0, r0⟩ := trodAll_cons hA
  obtain ⟨v1, vs1, d1, ds1, p1, q1, rfl, rfl, rfl, h1, r1⟩ := trodAll_cons r0
  obtain ⟨v2, vs2, d2, ds2, p2, q2, rfl, rfl, rfl, h2, r2⟩ := trodAll_cons r1
  obtain ⟨rfl, rfl, rfl⟩ := trodAll_nil r2
  obtain rfl : args = #[v0, v1, v2] := by cases args; simp_all
  obtain ⟨rfl, rfl⟩ := trodVars_none hV
  have lt0 : ∀ x ∈ p0, x.block < W.heap.size := by obtain ⟨m, hm⟩ := h0; exact DataW.trod_lt m _ _ _ hm
  have hbulk0 : Rows.uptoBulk d0 ≤ 1048576 := by
    have := of_decide_eq_true hk
    simp only [List.cons_append, List.nil_append, Rows.uptoBulkAll] at this
    omega
  obtain ⟨t0, t0b, c0⟩ := read_T (W := W) (S := (Go.V.cx W gh0 []).S) (all0 W) (hval 0 49 v0 rfl rfl) h0 hbulk0
  have lt1 : ∀ x ∈ p1, x.block < W.heap.size := by obtain ⟨m, hm⟩ := h1; exact DataW.trod_lt m _ _ _ hm
  have hbulk1 : Rows.uptoBulk d1 ≤ 1048576 := by
    have := of_decide_eq_true hk
    simp only [List.cons_append, List.nil_append, Rows.uptoBulkAll] at this
    omega
  obtain ⟨t1, t1b, c1⟩ := read_T (W := W) (S := (Go.V.cx W gh0 []).S) (all0 W) (hval 1 49 v1 rfl rfl) h1 hbulk1
  have lt2 : ∀ x ∈ p2, x.block < W.heap.size := by obtain ⟨m, hm⟩ := h2; exact DataW.trod_lt m _ _ _ hm
  have hbulk2 : Rows.uptoBulk d2 ≤ 1048576 := by
    have := of_decide_eq_true hk
    simp only [List.cons_append, List.nil_append, Rows.uptoBulkAll] at this
    omega
  obtain ⟨s2, s2a, c2⟩ := read_str (S := (Go.V.cx W gh0 []).S) Tryd.underlying9 (hval 2 9 v2 rfl rfl) h2 hbulk2
  have hrun := subtypeLabels_run t0 t1 s2 t0b t1b s2a
  clear hA0
  simp only [List.append_nil] at hW'
  refine (law_ok (vals := [v0, v1, v2]) hrun W ⟨_, _, rfl, c0, _, _, rfl, c1, _, _, rfl, c2, rfl⟩ rfl (glob_ok (table hL))).mono fun e W' ⟨he, bel⟩ => ?_
  subst he
  exact ⟨_, rfl, _, _, _, [], _, [], hW', trodAll_mk1 (shut_bool Tryd.underlying4 _),
    (trodAll_cons_mk (Below.trod laidOut (by kernel_rfl) (of_decide_eq_true (by kernel_rfl)) h0 bel lt0) (trodAll_cons_mk (Below.trod laidOut (by kernel_rfl) (of_decide_eq_true (by kernel_rfl)) h1 bel lt1) (trodAll_cons_mk (Below.trod laidOut (by kernel_rfl) (of_decide_eq_true (by kernel_rfl)) h2 bel lt2) trodAll_mk0))), rfl, bel.frame _, fun h => by cases h⟩
/-- A WORLD FOR THE WITNESS: the table (block 0) as its initialiser lays it. -/
noncomputable def laidWorld (os : Os) : World :=
  { World.holding Tryd.prog os ⟨#[], #[], []⟩ with heap := (World.holding Tryd.prog os ⟨#[], #[], []⟩).heap.modify 0 fun
      | .cells _ t frozen => .cells #[.int .i64 0, .int .i64 1, .int .i64 2, .int .i64 3, .int .i64 5, .int .i64 4, .int .i64 7, .int .i64 6] t frozen
      | o => o }
theorem laid_met (os : Os) : laidMet Tryd.prog Rows.subtypeLabelsUptoRow.laid ((laidWorld os).forCall (fun _ _ => 0) ⟨#[], #[.agg #[.int .i64 0, .int .i64 0, .string ⟨#[]⟩, .int .i64 0, .slice none 0 0, .slice none 0 0], .agg #[.int .i64 0, .int .i64 0, .string ⟨#[]⟩, .int .i64 0, .slice none 0 0, .slice none 0 0], .string ⟨#[]⟩], []⟩).memory :=
  laidMet_of_run' 8 (by kernel_rfl) (by kernel_rfl)
theorem reads (os : Os) {H : Type} (enc : TypeId × Value → H) : ∃ places, DataW.whole enc Tryd.prog ((laidWorld os).forCall (fun _ _ => 0) ⟨#[], #[.agg #[.int .i64 0, .int .i64 0, .string ⟨#[]⟩, .int .i64 0, .slice none 0 0, .slice none 0 0], .agg #[.int .i64 0, .int .i64 0, .string ⟨#[]⟩, .int .i64 0, .slice none 0 0, .slice none 0 0], .string ⟨#[]⟩], []⟩).memory Tryd.f8.params.toList Rows.subtypeLabelsSpec.vars false (#[.agg #[.int .i64 0, .int .i64 0, .string ⟨#[]⟩, .int .i64 0, .slice none 0 0, .slice none 0 0], .agg #[.int .i64 0, .int .i64 0, .string ⟨#[]⟩, .int .i64 0, .slice none 0 0, .slice none 0 0], .string ⟨#[]⟩] : Array Value).toList 8 = some ([.agg [.lit (.int .i64 0), .lit (.int .i64 0), .lit (.string []), .lit (.int .i64 0), .nil, .nil], .agg [.lit (.int .i64 0), .lit (.int .i64 0), .lit (.string []), .lit (.int .i64 0), .nil, .nil], .lit (.string [])], [], places) :=
  ⟨[], by kernel_rfl⟩
theorem liftedUpto (os : Os) (started : os.Started) (H : Type) (enc : TypeId × Value → H) (F : Stop.Interp) :
    ReturnsInHanded {} Tryd.checked os 8 .any ((Rows.OpenSpec.upto Rows.subtypeLabelsSpec).preRow enc Tryd.prog Tryd.f8 Rows.subtypeLabelsUptoRow.domain false Rows.subtypeLabelsUptoRow.laid) (((Rows.OpenSpec.upto Rows.subtypeLabelsSpec).at F).post enc Tryd.prog Tryd.f8 false true false false) := by
  obtain ⟨places, hx⟩ := reads os enc
  refine returnsInHanded_of_row (C := Tryd.checked) (s := Rows.OpenSpec.upto Rows.subtypeLabelsSpec) own started (by kernel_rfl) Tryd.func8
    (witness_row_at (enc := enc) (C := Tryd.checked) false (laidWorld os) #[.agg #[.int .i64 0, .int .i64 0, .string ⟨#[]⟩, .int .i64 0, .slice none 0 0, .slice none 0 0], .agg #[.int .i64 0, .int .i64 0, .string ⟨#[]⟩, .int .i64 0, .slice none 0 0, .slice none 0 0], .string ⟨#[]⟩] rfl (by kernel_rfl) (by kernel_rfl) (by kernel_rfl)
      (OpenSpec.preRow_of_cond 8 hx (by kernel_rfl) (fun k hk => by cases hk; kernel_rfl) (by kernel_rfl) (laid_met os))) ?_
  intro W base args ds gs before hval hW _ hcond _ hL _ _
  exact contract H enc W base args ds gs before hval hW (hcond _ rfl) hL
theorem saidUpto : Rows.SubtypeLabelsUptoSaid :=
  OpenClaim.holds_of_cond 8 Tryd.f8 rfl rfl rfl rfl rfl rfl rfl ⟨rfl, rfl, rfl, rfl, rfl⟩ rfl rfl rfl rfl rfl (by kernel_rfl) Tryd.func8 (by kernel_rfl)
    (of_decide_eq_true (by kernel_rfl)) (by unfold Func.isWrapper; first | (rw [if_pos (by decide +kernel)]; kernel_rfl) | (rw [if_neg (by decide +kernel)]; exact ⟨rfl, rfl⟩))
    (fun os started H enc _ F => by rw [OpenClaim.pre_eq_preRow]; exact liftedUpto os started H enc F)
theorem plain (f : FuncId) (fn : Func) (hf : Tryd.pinned.checked.prog.funcNamed "duologue/duologuelaw11.SubtypeLabels" = some f) (hfn : Tryd.pinned.checked.prog.funcs[f]? = some fn) :
    false = Tryd.pinned.checked.prog.looks [] ∧ ∀ (j : Nat) t, fn.params[j]? = some t → Tryd.pinned.checked.prog.wantsStandIn t = false := by
  obtain rfl : f = 8 := Option.some.inj ((show Tryd.prog.funcNamed "duologue/duologuelaw11.SubtypeLabels" = some 8 by kernel_rfl).symm.trans hf) |>.symm
  obtain rfl : fn = Tryd.f8 := (Option.some.inj (Tryd.func8.symm.trans hfn)).symm
  refine ⟨by kernel_rfl, fun j t ht => ?_⟩
  rw [Tryd.params8] at ht
  have hm : t ∈ [49, 49, 9] := by simpa using Array.mem_of_getElem? ht
  have hall : ([49, 49, 9].all fun u => !Tryd.prog.wantsStandIn u) = true := by kernel_rfl
  exact (show Tryd.prog.wantsStandIn t = false by simpa using List.all_eq_true.1 hall t hm)
theorem subtypeLabels_card : Rows.SubtypeLabelsUptoCardSaid :=
  Claim7.holds_tied_plain_at .later [] _ _ _ _ saidUpto (fun _ h => by cases h) (by kernel_rfl) (fun _ h => by cases h) subtypeLabelsUpto_row_tie rfl ⟨rfl, rfl⟩ (by kernel_rfl) rfl plain (by kernel_rfl)
#print axioms subtypeLabels_card
end Go.Proofs.YtijfioakpngdhaaDoor
