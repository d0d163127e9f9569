/- The classes of nodes; the law EqualClasses. -/
import Derived.Test.YtijfioakpngdhaaMI
namespace Go.Proofs.Ytijfioakpngdhaa
open Go.V
set_option maxRecDepth 100000
set_option linter.unusedSimpArgs false
set_option linter.unusedVariables false

def nR (i : Nat) : Rf := ⟨i, 0⟩
theorem nR_ok {N : List Nd} {i : Nat} (h : i < N.length) : RefOk N (nR i) := ⟨by show (0 : Int) ≤ i; omega, by show (i : Int) < _; omega, by show _ ≤ (0 : Int) ∧ (0 : Int) ≤ _; omega⟩
theorem nB_iff {N : List Nd} {i k : Nat} : eqB N (nR i) (nR k) = true ↔ EqP N false ((i : Int), (k : Int), 0) := by
  rw [eqB_iff]; unfold key3 ndf nR; rw [if_neg (by decide)]; exact Iff.rfl
theorem nB_refl {N : List Nd} {B : Int} (hG : GOk N B) {i : Nat} (h : i < N.length) : eqB N (nR i) (nR i) = true := nB_iff.2 (eqp_refl hG false (by omega) (by omega))
theorem nB_symm {N : List Nd} {B : Int} (hG : GOk N B) (i k : Nat) : eqB N (nR i) (nR k) = eqB N (nR k) (nR i) := by
  have h : ∀ i k : Nat, eqB N (nR i) (nR k) = true → eqB N (nR k) (nR i) = true := fun i k h => nB_iff.2 (by have := eqp_symm hG (nB_iff.1 h); rw [Int.neg_zero] at this; exact this)
  cases h1 : eqB N (nR i) (nR k) with
  | true => exact (h i k h1).symm
  | false =>
    cases h2 : eqB N (nR k) (nR i) with
    | false => rfl
    | true => rw [h k i h2] at h1; exact h1.symm
theorem nB_trans {N : List Nd} {i k m : Nat} (h : eqB N (nR i) (nR k) = true) (g : eqB N (nR k) (nR m) = true) : eqB N (nR i) (nR m) = true := nB_iff.2 (by have := eqp_trans (nB_iff.1 h) (nB_iff.1 g); rw [Int.add_zero] at this; exact this)

/-- the least of the last nodes that is equal to a node -/
noncomputable def lsd (N : List Nd) (i : Nat) : Nat → Nat
  | 0 => i
  | j + 1 => if eqB N (nR i) (nR (i - j)) = true then i - j else lsd N i j
theorem lsd_spec {N : List Nd} {B : Int} (hG : GOk N B) {i : Nat} (hi : i < N.length) : ∀ j, j ≤ i + 1 → lsd N i j ≤ i ∧ eqB N (nR i) (nR (lsd N i j)) = true ∧ (∀ m, i < m + j → m ≤ i → eqB N (nR i) (nR m) = true → lsd N i j ≤ m)
  | 0, _ => ⟨Nat.le_refl _, nB_refl hG hi, fun m h1 h2 _ => by show i ≤ m; omega⟩
  | j + 1, hj => by
    obtain ⟨h1, h2, h3⟩ := lsd_spec hG hi j (by omega)
    rw [lsd]
    by_cases h : eqB N (nR i) (nR (i - j)) = true
    · rw [if_pos h]
      exact ⟨by omega, h, fun m q1 q2 _ => by omega⟩
    · rw [if_neg h]
      refine ⟨h1, h2, fun m q1 q2 q3 => ?_⟩
      by_cases e : m = i - j
      · rw [e] at q3; exact absurd q3 h
      · exact h3 m (by omega) q2 q3
noncomputable def lst (N : List Nd) (i : Nat) : Nat := lsd N i (i + 1)
theorem lst_le {N : List Nd} {B : Int} (hG : GOk N B) {i : Nat} (hi : i < N.length) : lst N i ≤ i := (lsd_spec hG hi (i + 1) (Nat.le_refl _)).1
theorem lst_eq {N : List Nd} {B : Int} (hG : GOk N B) {i : Nat} (hi : i < N.length) : eqB N (nR i) (nR (lst N i)) = true := (lsd_spec hG hi (i + 1) (Nat.le_refl _)).2.1
theorem lst_min {N : List Nd} {B : Int} (hG : GOk N B) {i m : Nat} (hi : i < N.length) (hm : m ≤ i) (h : eqB N (nR i) (nR m) = true) : lst N i ≤ m := (lsd_spec hG hi (i + 1) (Nat.le_refl _)).2.2 m (by omega) hm h
/-- the classes are the same exactly for equal nodes -/
theorem lst_iff {N : List Nd} {B : Int} (hG : GOk N B) {i k : Nat} (hi : i < N.length) (hk : k < N.length) : (lst N i = lst N k) ↔ eqB N (nR i) (nR k) = true := by
  have a1 := lst_le hG hi
  have a2 := lst_eq hG hi
  have b1 := lst_le hG hk
  have b2 := lst_eq hG hk
  constructor
  · intro h
    rw [h] at a2
    rw [nB_symm hG] at b2
    exact nB_trans a2 b2
  · intro h
    have h' := h
    rw [nB_symm hG] at h'
    have e1 := nB_trans h b2
    have e2 := nB_trans h' a2
    have hle : ∀ {i k : Nat}, i < N.length → lst N i ≤ i → lst N k ≤ k → eqB N (nR i) (nR (lst N k)) = true → lst N i ≤ lst N k := by
      intro i k hi c1 c2 c3
      by_cases h : lst N k ≤ i
      · exact lst_min hG hi h c3
      · omega
    have q1 := hle (k := k) hi a1 b1 e1
    have q2 := hle (k := i) hk b1 a1 e2
    omega

def clsD (N : List Nd) (i : Nat) (f : Nat → Nat) : List V.Data := ((List.range i).map fun j => V.Data.int .i64 (f j : Nat)) ++ List.replicate (N.length - i) (.int .i64 0)
def clI (N : List Nd) (f : Nat → Nat) (i : Nat) : St := ⟨[(1, .ptr 0 0), (3, .own 1), (11, .d (.int .i64 N.length)), (12, .d (.int .i64 i))], [(0, some (.box [.d (.sl 4 (N.map Nd.data))])), (1, some (.arr 1 (clsD N i f) true))], 2, 0, false⟩
def clM (N : List Nd) (f : Nat → Nat) (i : Nat) (v : Nat) : List V.Data := ((List.range i).map fun j => V.Data.int .i64 (f j : Nat)) ++ .int .i64 (v : Nat) :: List.replicate (N.length - (i + 1)) (.int .i64 0)
def clJ (N : List Nd) (f : Nat → Nat) (i k : Nat) : St := ⟨[(1, .ptr 0 0), (3, .own 1), (4, .d (.int .i64 i)), (11, .d (.int .i64 N.length)), (12, .d (.int .i64 i)), (19, .d (.int .i64 i)), (20, .d (.int .i64 k))], [(0, some (.box [.d (.sl 4 (N.map Nd.data))])), (1, some (.arr 1 (clM N f i i) true))], 2, 0, false⟩
theorem clsD_next (N : List Nd) (f : Nat → Nat) (i : Nat) (hi : i < N.length) : clM N f i (f i) = clsD N (i + 1) f := by
  unfold clM clsD
  rw [List.range_succ, List.map_append, List.append_assoc]; rfl
theorem clsD_set (N : List Nd) (f : Nat → Nat) (i v : Nat) (hi : i < N.length) : (clsD N i f).set i (.int .i64 (v : Nat)) = clM N f i v := by
  unfold clsD clM
  have hl : ((List.range i).map fun j => V.Data.int .i64 (f j : Nat)).length = i := by rw [List.length_map, List.length_range]
  rw [List.set_append_right _ _ (by omega), hl, Nat.sub_self, show N.length - i = (N.length - (i + 1)) + 1 by omega, List.replicate_succ, List.set_cons_zero]
theorem clM_set (N : List Nd) (f : Nat → Nat) (i v w : Nat) : (clM N f i v).set i (.int .i64 (w : Nat)) = clM N f i w := by
  unfold clM
  have hl : ((List.range i).map fun j => V.Data.int .i64 (f j : Nat)).length = i := by rw [List.length_map, List.length_range]
  rw [List.set_append_right _ _ (by omega), hl, Nat.sub_self, List.set_cons_zero]
theorem clM_get (N : List Nd) (f : Nat → Nat) (i v k : Nat) (hk : k < i) : (clM N f i v)[k]? = some (.int .i64 (f k : Nat)) := by
  unfold clM
  rw [List.getElem?_append_left (by rw [List.length_map, List.length_range]; exact hk), List.getElem?_map, List.getElem?_range hk]; rfl
theorem clM_geti (N : List Nd) (f : Nat → Nat) (i v : Nat) : (clM N f i v)[i]? = some (.int .i64 (v : Nat)) := by
  unfold clM
  have hl : ((List.range i).map fun j => V.Data.int .i64 (f j : Nat)).length = i := by rw [List.length_map, List.length_range]
  rw [List.getElem?_append_right (by omega), hl, Nat.sub_self]; rfl
theorem clM_len (N : List Nd) (f : Nat → Nat) (i v : Nat) (hi : i < N.length) : (clM N f i v).length = N.length := by
  unfold clM
  rw [List.length_append, List.length_map, List.length_range, List.length_cons, List.length_replicate]; omega
theorem clsD_len (N : List Nd) (f : Nat → Nat) (i : Nat) (hi : i ≤ N.length) : (clsD N i f).length = N.length := by
  unfold clsD
  rw [List.length_append, List.length_map, List.length_range, List.length_replicate]; omega
theorem clsD_get (N : List Nd) (f : Nat → Nat) (i : Nat) (hi : i < N.length) : (clsD N i f)[i]? = some (.int .i64 0) := by
  unfold clsD
  have hl : ((List.range i).map fun j => V.Data.int .i64 (f j : Nat)).length = i := by rw [List.length_map, List.length_range]
  rw [List.getElem?_append_right (by omega), hl, Nat.sub_self, show N.length - i = (N.length - (i + 1)) + 1 by omega, List.replicate_succ]; rfl

/-- where the inner loop ends, the outer one goes on -/
def ClQ (N : List Nd) (f : Nat → Nat) (i : Nat) (e : Out × St) : Prop := ∃ fr ob nx, e = (.exit 2, ⟨fr, ob, nx, 0, false⟩) ∧ fget fr 12 = .d (.int .i64 i) ∧
  norm [1, 3, 11, 12] ⟨(12, .d (.int .i64 (i + 1 : Nat))) :: (42, .d (.int .i64 (i + 1 : Nat))) :: fr, ob, nx, 0, false⟩ = clI N f (i + 1)
theorem cl_inner (N : List Nd) (B : Int) (hG : GOk N B) (i : Nat) (hi : i < N.length) : ∃ e, LW [1, 3, 4, 11, 12, 19, 20] c25_l0 (clJ N (lst N) i 0) = some e ∧ ClQ N (lst N) i e := by
  have hsm := hG.small
  refine loop_p (keep := [1, 3, 4, 11, 12, 19, 20]) (c := c25_l0) (I := clJ N (lst N) i) (n := i) (P := fun k => ∀ j, j < k → eqB N (nR j) (nR i) = false) (Q := ClQ N (lst N) i) (fun k hk hP => ?_) (fun hP => ?_) i 0 (by omega) (fun j hj => by omega)
  · have hk' : decide ((k : Int) < (i : Int)) = true := decide_eq_true (by omega)
    have hkk : decide (k < i) = true := decide_eq_true hk
    have hg := clM_get N (lst N) i i k hk
    have hgi := clM_geti N (lst N) i i
    have hlen := clM_len N (lst N) i i hi
    have d1 : decide (k < N.length) = true := decide_eq_true (by omega)
    have d2 : decide (i < N.length) = true := decide_eq_true hi
    have hE := equal_run hG (nR_ok (show k < N.length by omega)) (nR_ok hi)
    unfold nR at hE
    rw [Rf.data_eq, Rf.data_eq] at hE
    dsimp only at hE
    have w5 : IntKind.wrap .i64 ((k : Int) + 1) = ((k + 1 : Nat) : Int) := by rw [wrap64 (by omega) (by omega)]; omega
    by_cases hself : lst N k = k
    · have e1 := decide_eq_true hself
      cases hb : eqB N (nR k) (nR i) with
      | true =>
        unfold nR at hb
        rw [hb] at hE
        refine .inr ⟨?e1, ?g1, ?g2, ?fr, ?ob, ?nx, ?g3, ?g4, ?g5⟩
        case g1 =>
          unfold c25_l0 clJ
          simp only [go_sem, hk', hkk, hlen, d1, d2, hg, hgi, e1, hE]
          rfl
        case g2 => intro h; cases h
        case g3 => rfl
        case g4 => rfl
        case g5 =>
          have hl : lst N i = k := by
            have h1 := lst_min hG hi (m := k) (by omega) (by rw [nB_symm hG]; exact hb)
            have h2 := lst_eq hG hi
            by_cases h : lst N i = k
            · exact h
            · have := hP (lst N i) (by omega)
              rw [nB_symm hG] at this
              rw [h2] at this; cases this
          unfold clI
          rw [← clsD_next N (lst N) i hi, hl, ← clM_set N (lst N) i i k]
          show _ = _
          kernel_rfl
      | false =>
        have hb' := hb
        unfold nR at hb
        rw [hb] at hE
        refine .inl ⟨?s1, ?h1, ?h2, ?h3⟩
        case h1 =>
          unfold c25_l0 clJ
          simp only [go_sem, hk', hkk, hlen, d1, d2, hg, hgi, e1, hE, w5]
          rfl
        case h2 =>
          unfold clJ
          show _ = _
          kernel_rfl
        case h3 =>
          intro j hj
          by_cases e : j = k
          · rw [e]; exact hb'
          · exact hP j (by omega)
    · have e1 := decide_eq_false hself
      refine .inl ⟨?s2, ?h1, ?h2, ?h3⟩
      case h1 =>
        unfold c25_l0 clJ
        simp only [go_sem, hk', hkk, hlen, d1, d2, hg, hgi, e1, w5]
        rfl
      case h2 =>
        unfold clJ
        show _ = _
        kernel_rfl
      case h3 =>
        intro j hj
        by_cases e : j = k
        · rw [e]
          cases hb : eqB N (nR k) (nR i) with
          | false => rfl
          | true =>
            have h1 := lst_eq hG (show k < N.length by omega)
            have h2 := lst_le hG (show k < N.length by omega)
            rw [nB_symm hG] at h1
            have := hP (lst N k) (by omega)
            rw [nB_trans h1 hb] at this; cases this
        · exact hP j (by omega)
  · refine ⟨?e, ?g1, ?g2, ?fr2, ?ob2, ?nx2, ?g3, ?g4, ?g5⟩
    case g1 =>
      unfold c25_l0 clJ
      simp only [go_sem]
      rfl
    case g2 => intro h; cases h
    case g3 => rfl
    case g4 => rfl
    case g5 =>
      have hl : lst N i = i := by
        have h1 := lst_le hG hi
        have h2 := lst_eq hG hi
        by_cases h : lst N i = i
        · exact h
        · have := hP (lst N i) (by omega)
          rw [nB_symm hG] at this
          rw [h2] at this; cases this
      unfold clI
      rw [← clsD_next N (lst N) i hi, hl]
      show _ = _
      kernel_rfl
theorem cl_outer (N : List Nd) (B : Int) (hG : GOk N B) (i : Nat) (hi : i < N.length) : ∃ s, exec att RW LW c25_l1 (clI N (lst N) i) = some (.normal, s) ∧ norm [1, 3, 11, 12] s = clI N (lst N) (i + 1) := by
  have hsm := hG.small
  obtain ⟨e, hl, fr, ob, nx, rfl, h1, h2⟩ := cl_inner N B hG i hi
  have hi' : decide ((i : Int) < (N.length : Int)) = true := decide_eq_true (by omega)
  have hlen := clsD_len N (lst N) i (by omega)
  have d2 : decide (i < N.length) = true := decide_eq_true hi
  have hg := clsD_get N (lst N) i hi
  have hset := clsD_set N (lst N) i i hi
  have w5 : IntKind.wrap .i64 ((i : Int) + 1) = ((i + 1 : Nat) : Int) := by rw [wrap64 (by omega) (by omega)]; omega
  refine ⟨_, ?g1, h2⟩
  unfold c25_l1 clI
  simp only [go_sem, hi', hlen, d2, hg, hset]
  refine obind_mk (Eq.trans (by kernel_rfl) hl) ?_
  simp only [go_sem, h1, w5]
theorem classes_run {N : List Nd} {B : Int} (hG : GOk N B) : RW 25 [.d (.agg [.sl 4 (N.map Nd.data)])] [] = some (.own 0, [(0, some (.arr 1 (clsD N N.length (lst N)) true))]) := by
  have hsm := hG.small
  refine runW_fn rfl rfl ?_
  unfold runFn c25
  have hb : decide (N.length * 8 ≤ 140737488355328) = true := decide_eq_true (by omega)
  simp only [go_sem, hb, List.length_replicate]
  refine obind_loop (e := ?e) (I := clI N (lst N)) (n := N.length) (by kernel_rfl) (cl_outer N B hG) ?he ?hn ?rest
  case he =>
    unfold c25_l1 clI
    simp only [go_sem]
    rfl
  case hn => intro h; cases h
  case rest =>
    simp only [go_sem]
    show _ = _
    kernel_rfl
end Go.Proofs.Ytijfioakpngdhaa

namespace Go.Proofs.Ytijfioakpngdhaa
open Go.V
set_option maxRecDepth 100000
set_option linter.unusedSimpArgs false
set_option linter.unusedVariables false

theorem awake10_run : RW 15 [] [] = some (.d (.bool true), []) := runW_mk (k := 60) (by kernel_rfl)

noncomputable def csD (N : List Nd) : List V.Data := (List.range N.length).map fun j => V.Data.int .i64 (lst N j : Nat)
theorem csD_eq (N : List Nd) : clsD N N.length (lst N) = csD N := by unfold clsD csD; rw [Nat.sub_self, List.replicate_zero, List.append_nil]
theorem csD_len (N : List Nd) : (csD N).length = N.length := by unfold csD; rw [List.length_map, List.length_range]
theorem csD_get (N : List Nd) {k : Nat} (hk : k < N.length) : (csD N)[k]? = some (.int .i64 (lst N k : Nat)) := by
  unfold csD; rw [List.getElem?_map, List.getElem?_range hk]; rfl
noncomputable def ecI (N : List Nd) (i : Nat) : St := ⟨[(3, .ptr 0 0), (5, .own 2), (6, .d (.int .i64 i))], [(0, some (.box [.own 1])), (1, some (.arr 4 (N.map Nd.data) false)), (2, some (.arr 1 (csD N) true))], 3, 0, false⟩
noncomputable def ecJ (N : List Nd) (i j : Nat) : St := ⟨[(3, .ptr 0 0), (5, .own 2), (6, .d (.int .i64 i)), (7, .d (.int .i64 (lsd N i j : Nat))), (8, .d (.int .i64 ((i : Int) - j)))], [(0, some (.box [.own 1])), (1, some (.arr 4 (N.map Nd.data) false)), (2, some (.arr 1 (csD N) true))], 3, 0, false⟩
theorem ec_inner (N : List Nd) (B : Int) (hG : GOk N B) (i : Nat) (hi : i < N.length) (j : Nat) (hj : j < i + 1) :
    ∃ s, exec att RW LW c5_l0 (ecJ N i j) = some (.normal, s) ∧ norm [3, 5, 6, 7, 8] s = ecJ N i (j + 1) := by
  have hsm := hG.small
  obtain ⟨k, hk⟩ : ∃ k, k = i - j := ⟨_, rfl⟩
  have hkj : ((i : Int) - j) = (k : Int) := by omega
  have hkl : k < N.length := by omega
  have d0 : decide (0 ≤ (k : Int)) = true := decide_eq_true (by omega)
  have hE1 := equal_run hG (nR_ok hi) (nR_ok hkl)
  have hE2 := equal_run hG (nR_ok hkl) (nR_ok hi)
  have hs := nB_symm hG i k
  have hif := lst_iff hG hi hkl
  have hstep : lsd N i (j + 1) = if eqB N (nR i) (nR k) = true then k else lsd N i j := by rw [lsd, hk]
  rw [← hs] at hE2
  generalize eqB N (nR i) (nR k) = b at hE1 hE2 hif hstep
  unfold nR at hE1 hE2
  rw [Rf.data_eq, Rf.data_eq] at hE1 hE2
  dsimp only at hE1 hE2
  have g1 := csD_get N hi
  have g2 := csD_get N hkl
  have hl := csD_len N
  have dl1 : decide (i < N.length) = true := decide_eq_true hi
  have dl2 : decide (k < N.length) = true := decide_eq_true hkl
  have w : IntKind.wrap .i64 ((k : Int) - 1) = (i : Int) - ((j + 1 : Nat) : Int) := by rw [wrap64 (by omega) (by omega)]; omega
  unfold ecJ
  rw [hstep, hkj]
  cases b with
  | true =>
    have e1 : decide (lst N i = lst N k) = true := decide_eq_true (hif.2 rfl)
    rw [if_pos rfl]
    refine ⟨?s, ?g1, ?g2⟩
    case g1 =>
      unfold c5_l0
      simp only [go_sem, d0, hE1, hE2, g1, g2, hl, dl1, dl2, e1, w]
      rfl
    case g2 =>
      show _ = _
      kernel_rfl
  | false =>
    have e1 : decide (lst N i = lst N k) = false := decide_eq_false (fun h => by have := hif.1 h; cases this)
    rw [if_neg (by decide)]
    refine ⟨?s2, ?g1, ?g2⟩
    case g1 =>
      unfold c5_l0
      simp only [go_sem, d0, hE1, hE2, g1, g2, hl, dl1, dl2, e1, w]
      rfl
    case g2 =>
      show _ = _
      kernel_rfl
theorem ec_outer (N : List Nd) (B : Int) (hG : GOk N B) (i : Nat) (hi : i < N.length) : ∃ s, exec att RW LW c5_l1 (ecI N i) = some (.normal, s) ∧ norm [3, 5, 6] s = ecI N (i + 1) := by
  have hsm := hG.small
  have hl := csD_len N
  have hi' : decide ((i : Int) < (N.length : Int)) = true := decide_eq_true (by omega)
  have g1 := csD_get N hi
  have dl1 : decide (i < N.length) = true := decide_eq_true hi
  have w5 : IntKind.wrap .i64 ((i : Int) + 1) = ((i + 1 : Nat) : Int) := by rw [wrap64 (by omega) (by omega)]; omega
  have hend : lsd N i (i + 1) = lst N i := rfl
  have dm : decide (0 ≤ (i : Int) - ((i + 1 : Nat) : Int)) = false := decide_eq_false (by omega)
  refine ⟨?s, ?g1, ?g2⟩
  case g1 =>
    unfold c5_l1 ecI
    simp only [go_sem, hi', hl]
    have e0 : ecJ N i 0 = ⟨[(3, .ptr 0 0), (5, .own 2), (6, .d (.int .i64 i)), (7, .d (.int .i64 i)), (8, .d (.int .i64 i))], [(0, some (.box [.own 1])), (1, some (.arr 4 (N.map Nd.data) false)), (2, some (.arr 1 (csD N) true))], 3, 0, false⟩ := by
      unfold ecJ lsd
      rw [show ((i : Int) - ((0 : Nat) : Int)) = (i : Int) by omega]
    refine obind_loop (e := ?e) (I := ecJ N i) (n := i + 1) (by rw [e0]; kernel_rfl) (ec_inner N B hG i hi) ?he ?hn ?rest
    case he =>
      unfold c5_l0 ecJ
      rw [hend]
      simp only [go_sem, dm]
      rfl
    case hn => intro h; cases h
    case rest =>
      simp only [go_sem, hl, dl1, g1, w5]
      rfl
  case g2 =>
    unfold ecI
    show _ = _
    kernel_rfl
theorem equalClasses_run (l : List T) (hl : l.length < 1000000000) (hw : ∀ t ∈ l, Wf t) : RW 5 [.d (.sl 6 (l.map T.data))] [] = some (.d (.bool true), []) := by
  have ha := awake10_run
  obtain ⟨b, hf, hb⟩ := fews_run l 3 12 hl hw (by omega) (by omega)
  refine runW_fn rfl rfl ?_
  unfold runFn c5
  cases b with
  | false => simp only [go_sem, ha, hf]
  | true =>
    have hfew := hb.1 rfl
    have hfine := few_fine hw (by omega) (by omega) hfew
    have hg := graph_run l hfine
    have hsz : T.sizeL l ≤ 1000 := by
      have : ∀ k : List T, (∀ t ∈ k, (t.size : Int) ≤ 12) → (T.sizeL k : Int) ≤ k.length * 12 := by
        intro k
        induction k with
        | nil => intro _; simp [T.sizeL]
        | cons x k ih =>
          intro hx
          have a := hx x List.mem_cons_self
          have b := ih fun t ht => hx t (List.mem_cons_of_mem _ ht)
          rw [T.sizeL, List.length_cons]
          omega
      have := this l fun t ht => (small_out (hw t ht) (by omega) (hfew.2 t ht)).1
      have := hfew.1
      omega
    have hG := graph_ok (l := l) (m := 12) (by omega) (by have := hfew.1; omega) hw hfew.2 hsz
    generalize nodesL l 0 [] [] = N at *
    have hc := classes_run hG
    rw [csD_eq] at hc
    have hcl := csD_len N
    simp only [go_sem, ha, hf, hg, hc, hcl]
    refine obind_loop (e := ?e) (I := ecI N) (n := N.length) (by kernel_rfl) (ec_outer N _ hG) ?he ?hn ?rest
    case he =>
      unfold c5_l1 ecI
      simp only [go_sem, hcl]
      rfl
    case hn => intro h; cases h
    case rest =>
      simp only [go_sem]
end Go.Proofs.Ytijfioakpngdhaa
