/- The seat's limits. -/
import Derived.Test.YtijfioakpngdhaaDoorMD
namespace Go.Proofs.YtijfioakpngdhaaDoor
open Go.V
def ext : ExtT := fun f =>
  match f with
  | 17 => some kindE
  | 37 => some (cloneE 1 16)
  | 38 => some (cloneE 2 16)
  | _ => none
theorem ext_ok (f : Nat) (e : List AV → Objs → Option (AV × Objs)) (h : ext f = some e) (args : List AV) (ob : Objs) (r : AV × Objs) (hr : e args ob = some r) : Enters Tryd.prog f ∧ CallOK gl Tryd.prog (att f).ro f args ob r := by
  unfold ext at h
  split at h
  · injection h with h; subst h
    refine ⟨enters_of (by kernel_rfl), ?_⟩
    unfold kindE at hr
    split at hr
    · injection hr with hr; subst hr; exact kind17 _
    · cases hr
  · injection h with h; subst h
    obtain ⟨xs, rfl, rfl, h1, h2, rfl⟩ := clone_inv hr
    exact ⟨enters_of (by kernel_rfl), clone37 xs h1 h2⟩
  · injection h with h; subst h
    obtain ⟨xs, rfl, rfl, h1, h2, rfl⟩ := clone_inv hr
    exact ⟨enters_of (by kernel_rfl), clone38 xs h1 h2⟩
  · cases h
noncomputable abbrev RW : CallT := runW vf att ext
noncomputable abbrev LW : LoopT := loopW vf att ext
/-- what the machine's limit tells, the program does -/
theorem rw_ok : V.Callee gl Tryd.prog att RW := runW_ok mixed vf_ok enters_vf ext_ok
theorem clone_run1 (xs : List V.Data) (h1 : sizesOk 1 xs = true) (h2 : xs.length * 16 ≤ 140737488355328) : RW 37 [.d (.sl 1 xs)] [] = some (.own 0, [(0, some (.arr 1 xs true))]) :=
  runW_ext rfl (by show need (Nat.beq 1 1 && (sizesOk 1 xs && decide (xs.length * 16 ≤ 140737488355328))) _ = _; rw [h1, decide_eq_true h2]; rfl)
theorem clone_run2 (xs : List V.Data) (h1 : sizesOk 2 xs = true) (h2 : xs.length * 16 ≤ 140737488355328) : RW 38 [.d (.sl 2 xs)] [] = some (.own 0, [(0, some (.arr 2 xs true))]) :=
  runW_ext rfl (by show need (Nat.beq 2 2 && (sizesOk 2 xs && decide (xs.length * 16 ≤ 140737488355328))) _ = _; rw [h1, decide_eq_true h2]; rfl)
theorem kind_run (n : Int) : RW 17 [.d (.int .i64 n)] [] = some (.d (.int .i64 (kindD n)), []) := runW_ext rfl rfl
/-- a loop that ends: P holds at each head, Q at the end -/
theorem loop_p {keep : List Nat} {c : VC} {I : Nat → St} {n : Nat} {P : Nat → Prop} {Q : Out × St → Prop}
    (hs : ∀ i, i < n → P i → (∃ s, exec att RW LW c (I i) = some (.normal, s) ∧ norm keep s = I (i + 1) ∧ P (i + 1)) ∨ (∃ e, exec att RW LW c (I i) = some e ∧ e.1 ≠ .normal ∧ Q e))
    (he : P n → ∃ e, exec att RW LW c (I n) = some e ∧ e.1 ≠ .normal ∧ Q e) : ∀ k i, i + k = n → P i → ∃ e, LW keep c (I i) = some e ∧ Q e
  | 0, i, h, hp => by
    have : i = n := by omega
    subst this
    obtain ⟨e, h1, h2, h3⟩ := he hp
    exact ⟨e, loopW_out1 h1 h2, h3⟩
  | k + 1, i, h, hp => by
    rcases hs i (by omega) hp with ⟨s, h1, h2, h2p⟩ | ⟨e, h1, h2, h3⟩
    · obtain ⟨e, h3, h4⟩ := loop_p hs he k (i + 1) (by omega) h2p
      exact ⟨e, loopW_next h1 (by rw [h2]; exact h3), h4⟩
    · exact ⟨e, loopW_out1 h1 h2, h3⟩
/-- a loop's end: the function's own objects are none -/
def QE (P1 : Fr → Prop) (id : Nat) (P2 : Fr → Prop) (e : Out × St) : Prop := (e.1 = .exit id ∧ P1 e.2.fr ∨ e.1 = .ret ∧ P2 e.2.fr) ∧ e.2.m = 0 ∧ e.2.ro = false
theorem QE.out {P1 P2 : Fr → Prop} {id : Nat} {e : Out × St} (h : QE P1 id P2 e) : (∃ fr ob nx, e = (.exit id, ⟨fr, ob, nx, 0, false⟩) ∧ P1 fr) ∨ (∃ fr ob nx, e = (.ret, ⟨fr, ob, nx, 0, false⟩) ∧ P2 fr) := by
  obtain ⟨o, fr, ob, nx, m, ro⟩ := e
  obtain ⟨h1, h2, h3⟩ := h
  dsimp only at h1 h2 h3
  subst h2; subst h3
  rcases h1 with ⟨h1, h4⟩ | ⟨h1, h4⟩
  · subst h1; exact .inl ⟨fr, ob, nx, rfl, h4⟩
  · subst h1; exact .inr ⟨fr, ob, nx, rfl, h4⟩
end Go.Proofs.YtijfioakpngdhaaDoor

namespace Go.Proofs.YtijfioakpngdhaaDoor
open Go.V
set_option maxRecDepth 100000
set_option linter.unusedSimpArgs false
set_option linter.unusedVariables false

/-- what a function that answers one bool answers -/
noncomputable def ans (f : Nat) (args : List AV) : Bool := open Classical in decide (RW f args [] = some (.d (.bool true), []))
open Classical in
theorem ans_of {f : Nat} {args : List AV} (h : ∃ b, RW f args [] = some (.d (.bool b), [])) : RW f args [] = some (.d (.bool (ans f args)), []) := by
  obtain ⟨b, h⟩ := h
  unfold ans
  cases b with
  | true => rw [decide_eq_true h]; exact h
  | false => rw [decide_eq_false (by rw [h]; intro e; cases e)]; exact h

theorem letters_run : RW 85 [] [] = some (.d (.str [65, 66, 67, 68, 69, 70, 71, 72, 73, 74, 75, 76, 77, 78, 79, 80, 81, 82, 83, 84, 85, 86, 87, 88, 89, 90, 97, 98, 99, 100, 101, 102, 103, 104, 105, 106, 107, 108, 109, 110, 111, 112, 113, 114, 115, 116, 117, 118, 119, 120, 121, 122, 95]), []) := by
  refine runW_fn rfl rfl ?_
  unfold runFn c85
  simp only [go_sem]
theorem digits_run : RW 86 [] [] = some (.d (.str [48, 49, 50, 51, 52, 53, 54, 55, 56, 57]), []) := by
  refine runW_fn rfl rfl ?_
  unfold runFn c86
  simp only [go_sem]

def prioB (n : Int) : Bool := decide (0 ≤ n) && decide (n ≤ 1000000)
theorem prio_run (n : Int) : RW 77 [.d (.int .i64 n)] [] = some (.d (.bool (prioB n)), []) := by
  refine runW_fn rfl rfl ?_
  unfold runFn c77 prioB
  simp only [go_sem]
  refine gsplit (fun h => ?_) (fun h => ?_) <;> simp only [go_sem, *]

/-- 'in' of bytes ends -/
def in01I (c : Int) (s : List UInt8) (i : Nat) : St := ⟨[(0, .d (.int .u8 c)), (1, .d (.str s)), (5, .d (.int .i64 i))], [], 0, 0, false⟩
theorem in01_run (c : Int) (s : List UInt8) (hs : s.length < 1000000000) : ∃ b, RW 84 [.d (.int .u8 c), .d (.str s)] [] = some (.d (.bool b), []) := by
  have hloop := loop_p (keep := [0, 1, 5]) (c := c84_l0) (I := in01I c s) (n := s.length) (P := fun _ => True) (Q := QE (fun _ => True) 0 (fun fr => ∃ b, fget fr 4 = .d (.bool b))) (fun i hi _ => by
    have hi' : (i : Int) < s.length := by omega
    have hk : s[i]? = some s[i] := List.getElem?_eq_getElem hi
    by_cases h : ((s[i].toNat : Nat) : Int) = c
    · refine .inr ⟨?e1, ?_, ?_, ?_⟩
      case refine_1 =>
        unfold c84_l0 in01I
        simp only [go_sem, hi', hk, h]
        rfl
      · intro h; cases h
      · exact ⟨.inr ⟨rfl, true, rfl⟩, rfl, rfl⟩
    · refine .inl ⟨?s, ?h1, ?h2, trivial⟩
      case h1 =>
        unfold c84_l0 in01I
        simp only [go_sem, hi', hk, h]
        rfl
      case h2 =>
        rw [wrap64 (by omega) (by omega)]
        kernel_rfl) (fun _ => by
    refine ⟨?e, ?_, ?_, ?_⟩
    case refine_1 =>
      unfold c84_l0 in01I
      simp only [go_sem]
      rfl
    · intro h; cases h
    · exact ⟨.inl ⟨rfl, trivial⟩, rfl, rfl⟩) s.length 0 (by omega) trivial
  obtain ⟨e, h1, hq⟩ := hloop
  rcases hq.out with ⟨fr, ob, nx, rfl, h4⟩ | ⟨fr, ob, nx, rfl, b, h4⟩
  · refine ⟨false, runW_fn rfl rfl ?_⟩
    unfold runFn c84
    simp only [go_sem]
    refine obind_mk h1 ?_
    simp only [go_sem]
  · refine ⟨b, runW_fn rfl rfl ?_⟩
    unfold runFn c84
    simp only [go_sem]
    refine obind_mk h1 ?_
    simp only [go_sem, h4]

theorem letter_run (c : Int) : RW 84 [.d (.int .u8 c), .d (.str [65, 66, 67, 68, 69, 70, 71, 72, 73, 74, 75, 76, 77, 78, 79, 80, 81, 82, 83, 84, 85, 86, 87, 88, 89, 90, 97, 98, 99, 100, 101, 102, 103, 104, 105, 106, 107, 108, 109, 110, 111, 112, 113, 114, 115, 116, 117, 118, 119, 120, 121, 122, 95])] [] = some (.d (.bool (ans 84 [.d (.int .u8 c), .d (.str [65, 66, 67, 68, 69, 70, 71, 72, 73, 74, 75, 76, 77, 78, 79, 80, 81, 82, 83, 84, 85, 86, 87, 88, 89, 90, 97, 98, 99, 100, 101, 102, 103, 104, 105, 106, 107, 108, 109, 110, 111, 112, 113, 114, 115, 116, 117, 118, 119, 120, 121, 122, 95])])), []) := ans_of (in01_run c _ (by decide))
theorem digit_run (c : Int) : RW 84 [.d (.int .u8 c), .d (.str [48, 49, 50, 51, 52, 53, 54, 55, 56, 57])] [] = some (.d (.bool (ans 84 [.d (.int .u8 c), .d (.str [48, 49, 50, 51, 52, 53, 54, 55, 56, 57])])), []) := ans_of (in01_run c _ (by decide))

/-- 'Word' ends -/
def wordI (s : List UInt8) (i : Nat) : St := ⟨[(0, .d (.str s)), (3, .d (.int .i64 (i + 1 : Nat)))], [], 0, 0, false⟩
theorem word_run (s : List UInt8) (hs : s.length < 1000000000) : ∃ b, RW 82 [.d (.str s)] [] = some (.d (.bool b), []) := by
  cases s with
  | nil =>
    refine ⟨false, runW_fn rfl rfl ?_⟩
    unfold runFn c82
    simp only [go_sem]
  | cons c s =>
    have hne : ¬ ((s.length + 1 : Nat) : Int) = 0 := by omega
    by_cases hb : ans 84 [.d (.int .u8 (c.toNat : Nat)), .d (.str [65, 66, 67, 68, 69, 70, 71, 72, 73, 74, 75, 76, 77, 78, 79, 80, 81, 82, 83, 84, 85, 86, 87, 88, 89, 90, 97, 98, 99, 100, 101, 102, 103, 104, 105, 106, 107, 108, 109, 110, 111, 112, 113, 114, 115, 116, 117, 118, 119, 120, 121, 122, 95])] = true
    · have hloop := loop_p (keep := [0, 3]) (c := c82_l0) (I := wordI (c :: s)) (n := s.length) (P := fun _ => True) (Q := QE (fun _ => True) 0 (fun fr => ∃ b, fget fr 2 = .d (.bool b))) (fun i hi _ => by
        have hs' : s.length + 1 < 1000000000 := hs
        have hi' : ((i + 1 : Nat) : Int) < ((s.length + 1 : Nat) : Int) := by omega
        have hk : s[i]? = some s[i] := List.getElem?_eq_getElem hi
        have hp : decide (0 ≤ ((i + 1 : Nat) : Int)) = true := by simp; omega
        have ht : ((i + 1 : Nat) : Int).toNat = i + 1 := by omega
        have key : ∀ bL bD : Bool, ans 84 [.d (.int .u8 (s[i].toNat : Nat)), .d (.str [65, 66, 67, 68, 69, 70, 71, 72, 73, 74, 75, 76, 77, 78, 79, 80, 81, 82, 83, 84, 85, 86, 87, 88, 89, 90, 97, 98, 99, 100, 101, 102, 103, 104, 105, 106, 107, 108, 109, 110, 111, 112, 113, 114, 115, 116, 117, 118, 119, 120, 121, 122, 95])] = bL → ans 84 [.d (.int .u8 (s[i].toNat : Nat)), .d (.str [48, 49, 50, 51, 52, 53, 54, 55, 56, 57])] = bD →
            (∃ s', exec att RW LW c82_l0 (wordI (c :: s) i) = some (.normal, s') ∧ norm [0, 3] s' = wordI (c :: s) (i + 1) ∧ True) ∨ ∃ e, exec att RW LW c82_l0 (wordI (c :: s) i) = some e ∧ e.1 ≠ .normal ∧ QE (fun _ => True) 0 (fun fr => ∃ b, fget fr 2 = .d (.bool b)) e := by
          intro bL bD hL hD
          cases bL with
          | true =>
            refine .inl ⟨?s1, ?h1, ?h2, trivial⟩
            case h1 =>
              unfold c82_l0 wordI
              simp only [go_sem, hi', ht, hp, hk, letters_run, letter_run, digits_run, digit_run, hL]
              rfl
            case h2 => rw [wrap64 (by omega) (by omega)]; kernel_rfl
          | false =>
            cases bD with
            | true =>
              refine .inl ⟨?s2, ?h1, ?h2, trivial⟩
              case h1 =>
                unfold c82_l0 wordI
                simp only [go_sem, hi', ht, hp, hk, letters_run, letter_run, digits_run, digit_run, hL, hD]
                rfl
              case h2 => rw [wrap64 (by omega) (by omega)]; kernel_rfl
            | false =>
              refine .inr ⟨?e1, ?h1, ?h2, ?h3⟩
              case h1 =>
                unfold c82_l0 wordI
                simp only [go_sem, hi', ht, hp, hk, letters_run, letter_run, digits_run, digit_run, hL, hD]
                rfl
              case h2 => intro h; cases h
              case h3 => exact ⟨.inr ⟨rfl, false, rfl⟩, rfl, rfl⟩
        exact key _ _ rfl rfl) (fun _ => by
        refine ⟨?e, ?_, ?_, ?_⟩
        case refine_1 =>
          unfold c82_l0 wordI
          simp only [go_sem]
          rfl
        · intro h; cases h
        · exact ⟨.inl ⟨rfl, trivial⟩, rfl, rfl⟩) s.length 0 (by omega) trivial
      obtain ⟨e, h1, hq⟩ := hloop
      rcases hq.out with ⟨fr, ob, nx, rfl, h4⟩ | ⟨fr, ob, nx, rfl, b, h4⟩
      · refine ⟨true, runW_fn rfl rfl ?_⟩
        unfold runFn c82
        simp only [go_sem, hne, letters_run, letter_run, hb]
        refine obind_mk h1 ?_
        simp only [go_sem]
      · refine ⟨b, runW_fn rfl rfl ?_⟩
        unfold runFn c82
        simp only [go_sem, hne, letters_run, letter_run, hb]
        refine obind_mk h1 ?_
        simp only [go_sem, h4]
    · refine ⟨false, runW_fn rfl rfl ?_⟩
      unfold runFn c82
      simp only [go_sem, hne, letters_run, letter_run, hb]
end Go.Proofs.YtijfioakpngdhaaDoor

namespace Go.Proofs.YtijfioakpngdhaaDoor
open Go.V
set_option maxRecDepth 100000
set_option linter.unusedSimpArgs false
set_option linter.unusedVariables false

@[go_sem] theorem x_slice_d (sz sz' : Nat) (xs : List V.Data) (ob : Objs) (lo hi mx : Option Nat) : sliceR sz ob (some lo) (some hi) (some mx) (.d (.sl sz' xs)) = need (Nat.beq sz sz') (obind (sliceData sz' xs (lo.getD 0) (hi.getD xs.length) mx) fun v => some ⟨v, [], []⟩) := rfl
@[go_sem] theorem x_sliceData (sz : Nat) (xs : List V.Data) (l h : Nat) : sliceData sz xs l h none = need (decide (l ≤ h ∧ h ≤ xs.length)) (some (.d (.sl sz ((xs.take h).drop l)))) := rfl
attribute [go_sem] Option.getD_none Option.getD_some List.drop_zero Nat.zero_le true_and and_true cond_true cond_false

def kws : List (List UInt8) := [[100, 101, 102], [109, 97, 105, 110], [115, 116, 111, 112], [110, 101, 119], [105, 110, 116], [98, 111, 111, 108], [101, 110, 100], [114, 101, 99], [116, 114, 117, 101], [102, 97, 108, 115, 101]]
def kwI (s : List UInt8) (i : Nat) : St := ⟨[(0, .d (.str s)), (3, .own 0), (4, .d (.int .i64 i))], [(0, some (.arr 1 (kws.map .str) true))], 1, 0, false⟩
theorem keyword_run (s : List UInt8) : ∃ b, RW 83 [.d (.str s)] [] = some (.d (.bool b), []) := by
  have hloop := loop_p (keep := [0, 3, 4]) (c := c83_l0) (I := kwI s) (n := 10) (P := fun _ => True) (Q := QE (fun _ => True) 0 (fun fr => ∃ b, fget fr 2 = .d (.bool b))) (fun i hi _ => by
    have hi' : (i : Int) < 10 := by omega
    have hl : kws.length = 10 := rfl
    have hk : kws[i]? = some (kws[i]'hi) := List.getElem?_eq_getElem hi
    by_cases h : kws[i]'hi = s
    · refine .inr ⟨?e1, ?h1, ?h2, ?h3⟩
      case h1 =>
        unfold c83_l0 kwI
        simp only [go_sem, hl, hi, hi', hk, h]
        rfl
      case h2 => intro h; cases h
      case h3 => exact ⟨.inr ⟨rfl, true, rfl⟩, rfl, rfl⟩
    · refine .inl ⟨?s, ?h1, ?h2, trivial⟩
      case h1 =>
        unfold c83_l0 kwI
        simp only [go_sem, hl, hi, hi', hk, h]
        rfl
      case h2 =>
        rw [wrap64 (by omega) (by omega)]
        kernel_rfl) (fun _ => by
    have hl : kws.length = 10 := rfl
    refine ⟨?e, ?h1, ?h2, ?h3⟩
    case h1 =>
      unfold c83_l0 kwI
      simp only [go_sem, hl]
      rfl
    case h2 => intro h; cases h
    case h3 => exact ⟨.inl ⟨rfl, trivial⟩, rfl, rfl⟩) 10 0 (by omega) trivial
  obtain ⟨e, h1, hq⟩ := hloop
  rcases hq.out with ⟨fr, ob, nx, rfl, h4⟩ | ⟨fr, ob, nx, rfl, b, h4⟩
  · refine ⟨false, runW_fn rfl rfl ?_⟩
    unfold runFn c83
    simp only [go_sem, bsliceR, AV.toData, AV.toD, sizesOk, sharedL, AV.shared, AV.ownNames, shareUpd]
    refine obind_mk (Eq.trans (by kernel_rfl) h1) ?_
    simp only [go_sem]
  · refine ⟨b, runW_fn rfl rfl ?_⟩
    unfold runFn c83
    simp only [go_sem, bsliceR, AV.toData, AV.toD, sizesOk, sharedL, AV.shared, AV.ownNames, shareUpd]
    refine obind_mk (Eq.trans (by kernel_rfl) h1) ?_
    simp only [go_sem, h4]

noncomputable def nameB (s : List UInt8) : Bool := ans 82 [.d (.str s)] && !ans 83 [.d (.str s)]
theorem name_run (s : List UInt8) (hs : s.length < 1000000000) : RW 79 [.d (.str s)] [] = some (.d (.bool (nameB s)), []) := by
  have h1 := ans_of (word_run s hs)
  have h2 := ans_of (keyword_run s)
  refine runW_fn rfl rfl ?_
  unfold runFn c79 nameB
  simp only [go_sem, h1, h2]
  refine gsplit (fun h => ?_) (fun h => ?_) <;> simp only [go_sem, *]

def in02I (s : List UInt8) (l : List (List UInt8)) (i : Nat) : St := ⟨[(0, .d (.str s)), (1, .d (.sl 1 (l.map .str))), (5, .d (.int .i64 i))], [], 0, 0, false⟩
theorem in02_run (s : List UInt8) (l : List (List UInt8)) (hs : l.length < 1000000000) : RW 81 [.d (.str s), .d (.sl 1 (l.map .str))] [] = some (.d (.bool (decide (s ∈ l))), []) := by
  have hloop := loop_p (keep := [0, 1, 5]) (c := c81_l0) (I := in02I s l) (n := l.length) (P := fun i => s ∉ l.take i) (Q := QE (fun _ => s ∉ l) 0 (fun fr => fget fr 4 = .d (.bool true) ∧ s ∈ l)) (fun i hi hp => by
    have hi' : (i : Int) < l.length := by omega
    have hk : l[i]? = some l[i] := List.getElem?_eq_getElem hi
    by_cases h : l[i] = s
    · refine .inr ⟨?e1, ?h1, ?h2, ?h3⟩
      case h1 =>
        unfold c81_l0 in02I
        simp only [go_sem, hi', hk, h]
        rfl
      case h2 => intro h; cases h
      case h3 => exact ⟨.inr ⟨rfl, rfl, h ▸ List.getElem_mem hi⟩, rfl, rfl⟩
    · refine .inl ⟨?s, ?h1, ?h2, ?h3⟩
      case h1 =>
        unfold c81_l0 in02I
        simp only [go_sem, hi', hk, h]
        rfl
      case h2 =>
        rw [wrap64 (by omega) (by omega)]
        kernel_rfl
      case h3 =>
        rw [List.take_succ_eq_append_getElem hi]
        intro hm
        rcases List.mem_append.1 hm with hm | hm
        · exact hp hm
        · exact h (List.mem_singleton.1 hm).symm) (fun hp => by
    refine ⟨?e, ?h1, ?h2, ?h3⟩
    case h1 =>
      unfold c81_l0 in02I
      simp only [go_sem]
      rfl
    case h2 => intro h; cases h
    case h3 =>
      rw [List.take_length] at hp
      exact ⟨.inl ⟨rfl, hp⟩, rfl, rfl⟩) l.length 0 (by omega) (by simp)
  obtain ⟨e, h1, hq⟩ := hloop
  rcases hq.out with ⟨fr, ob, nx, rfl, h4⟩ | ⟨fr, ob, nx, rfl, h4, h5⟩
  · refine runW_fn rfl rfl ?_
    unfold runFn c81
    simp only [go_sem]
    refine obind_mk (Eq.trans (by kernel_rfl) h1) ?_
    simp only [go_sem, h4]
  · refine runW_fn rfl rfl ?_
    unfold runFn c81
    simp only [go_sem]
    refine obind_mk (Eq.trans (by kernel_rfl) h1) ?_
    simp only [go_sem, h4, h5]

/-- each label is a name, and no two are alike -/
def Lab (l : List (List UInt8)) : Prop := (∀ x ∈ l, nameB x = true) ∧ l.Nodup
def labI (l : List (List UInt8)) (i : Nat) : St := ⟨[(0, .d (.sl 1 (l.map .str))), (3, .d (.int .i64 i))], [], 0, 0, false⟩
theorem labels_run (l : List (List UInt8)) (hs : l.length < 1000000000) (hx : ∀ x ∈ l, x.length < 1000000000) : ∃ b, RW 78 [.d (.sl 1 (l.map .str))] [] = some (.d (.bool b), []) ∧ (b = true ↔ Lab l) := by
  have hloop := loop_p (keep := [0, 3]) (c := c78_l0) (I := labI l) (n := l.length) (P := fun i => Lab (l.take i)) (Q := QE (fun _ => Lab l) 0 (fun fr => fget fr 2 = .d (.bool false) ∧ ¬ Lab l)) (fun i hi hp => by
    have hi' : (i : Int) < l.length := by omega
    have hle : decide (i ≤ l.length) = true := by simp; omega
    have hk : l[i]? = some l[i] := List.getElem?_eq_getElem hi
    have hm : l[i] ∈ l := List.getElem_mem hi
    have hn := name_run l[i] (hx _ hm)
    have hin := in02_run l[i] (l.take i) (by rw [List.length_take]; omega)
    rw [List.map_take] at hin
    cases hb : nameB l[i] with
    | false =>
      rw [hb] at hn
      refine .inr ⟨?e1, ?h1, ?h2, ?h3⟩
      case h1 =>
        unfold c78_l0 labI
        simp only [go_sem, hi', hk, hn]
        rfl
      case h2 => intro h; cases h
      case h3 => exact ⟨.inr ⟨rfl, rfl, fun hl => by have := hl.1 _ hm; rw [hb] at this; cases this⟩, rfl, rfl⟩
    | true =>
      rw [hb] at hn
      by_cases h : l[i] ∈ l.take i
      · rw [decide_eq_true h] at hin
        refine .inr ⟨?e2, ?h1, ?h2, ?h3⟩
        case h1 =>
          unfold c78_l0 labI
          simp only [go_sem, hi', hle, hk, hn, hin, keysOf, pairsOk, List.cons_append, List.nil_append, List.getD_cons_succ, List.getD_cons_zero, effOk, disjointL]
          rfl
        case h2 => intro h; cases h
        case h3 =>
          refine ⟨.inr ⟨rfl, rfl, fun hl => ?_⟩, rfl, rfl⟩
          have h2 := hl.2
          rw [← List.take_append_drop i l, List.nodup_append] at h2
          exact h2.2.2 _ h _ (by rw [List.drop_eq_getElem_cons hi]; exact List.mem_cons_self) rfl
      · rw [decide_eq_false h] at hin
        refine .inl ⟨?s, ?h1, ?h2, ?h3⟩
        case h1 =>
          unfold c78_l0 labI
          simp only [go_sem, hi', hle, hk, hn, hin, keysOf, pairsOk, List.cons_append, List.nil_append, List.getD_cons_succ, List.getD_cons_zero, effOk, disjointL]
          rfl
        case h2 =>
          rw [wrap64 (by omega) (by omega)]
          kernel_rfl
        case h3 =>
          rw [List.take_succ_eq_append_getElem hi]
          refine ⟨fun x hx => ?_, ?_⟩
          · rcases List.mem_append.1 hx with hx | hx
            · exact hp.1 x hx
            · rw [List.mem_singleton.1 hx]; exact hb
          · rw [List.nodup_append]
            refine ⟨hp.2, by simp, fun a ha b hb' e => ?_⟩
            rw [List.mem_singleton.1 hb'] at e
            exact h (e ▸ ha)) (fun hp => by
    refine ⟨?e, ?h1, ?h2, ?h3⟩
    case h1 =>
      unfold c78_l0 labI
      simp only [go_sem]
      rfl
    case h2 => intro h; cases h
    case h3 =>
      rw [List.take_length] at hp
      exact ⟨.inl ⟨rfl, hp⟩, rfl, rfl⟩) l.length 0 (by omega) ⟨by simp, by simp⟩
  obtain ⟨e, h1, hq⟩ := hloop
  rcases hq.out with ⟨fr, ob, nx, rfl, h4⟩ | ⟨fr, ob, nx, rfl, h4, h5⟩
  · refine ⟨true, runW_fn rfl rfl ?_, by simp [h4]⟩
    unfold runFn c78
    simp only [go_sem]
    refine obind_mk (Eq.trans (by kernel_rfl) h1) ?_
    simp only [go_sem]
  · refine ⟨false, runW_fn rfl rfl ?_, by simp [h5]⟩
    unfold runFn c78
    simp only [go_sem]
    refine obind_mk (Eq.trans (by kernel_rfl) h1) ?_
    simp only [go_sem, h4]

theorem session_run (t : T) : RW 21 [.d t.data] [] = some (.d (.bool (!decide (t.kind = 1) && !decide (t.kind = 2))), []) := by
  refine runW_fn rfl rfl ?_
  unfold runFn c21
  simp only [go_sem, T.data_eq t]
  refine gsplit (fun h => ?_) (fun h => ?_) <;> simp only [go_sem, *]
end Go.Proofs.YtijfioakpngdhaaDoor

namespace Go.Proofs.YtijfioakpngdhaaDoor
open Go.V
set_option maxRecDepth 100000
set_option linter.unusedSimpArgs false
set_option linter.unusedVariables false

open Classical in
noncomputable def resI (f : Nat) (args : List AV) : Int := if h : ∃ v, RW f args [] = some (.d (.int .i64 v), []) then Classical.choose h else 0
open Classical in
theorem resI_of {f : Nat} {args : List AV} {v : Int} (h : RW f args [] = some (.d (.int .i64 v), [])) : resI f args = v := by
  have hx : ∃ v, RW f args [] = some (.d (.int .i64 v), []) := ⟨v, h⟩
  unfold resI
  rw [dif_pos hx]
  have e := h.symm.trans (Classical.choose_spec hx)
  injection e with e
  injection e with e _
  injection e with e
  injection e with _ e
  exact e.symm
theorem resI_run {f : Nat} {args : List AV} {v : Int} (h : RW f args [] = some (.d (.int .i64 v), [])) : RW f args [] = some (.d (.int .i64 (resI f args)), []) := by
  rw [resI_of h]; exact h

@[go_sem] theorem x_max (a b : Int) : bcond (decide (b > a)) (fun _ => b) (fun _ => a) = max a b := by
  by_cases h : b > a
  · rw [decide_eq_true h]; show b = _; omega
  · rw [decide_eq_false h]; show a = _; omega
@[go_sem] theorem x_min (a b : Int) : bcond (decide (b < a)) (fun _ => b) (fun _ => a) = min a b := by
  by_cases h : b < a
  · rw [decide_eq_true h]; show b = _; omega
  · rw [decide_eq_false h]; show a = _; omega

mutual
def Wf : T → Prop
  | .mk k p n s ls ks => n.length < 1000000000 ∧ ls.length < 1000000000 ∧ (∀ l ∈ ls, l.length < 1000000000) ∧ ks.length < 1000000000 ∧
      (-9223372036854775808 ≤ k ∧ k < 9223372036854775808) ∧ (-9223372036854775808 ≤ p ∧ p < 9223372036854775808) ∧ (-9223372036854775808 ≤ s ∧ s < 9223372036854775808) ∧ WfL ks
def WfL : List T → Prop
  | [] => True
  | t :: l => Wf t ∧ WfL l
end
theorem WfL_mem {l : List T} (h : WfL l) : ∀ t ∈ l, Wf t := by
  induction l with
  | nil => intro t ht; cases ht
  | cons x l ih =>
    intro t ht
    rw [WfL] at h
    rcases List.mem_cons.1 ht with e | ht
    · exact e ▸ h.1
    · exact ih h.2 t ht
theorem Wf.kid {t : T} (h : Wf t) {s : T} (hs : s ∈ t.kids) : Wf s := by
  cases t; rw [Wf] at h; exact WfL_mem h.2.2.2.2.2.2.2 s hs
theorem Wf.len {t : T} (h : Wf t) : t.kids.length < 1000000000 := by cases t; rw [Wf] at h; exact h.2.2.2.1
theorem Wf.nameLen {t : T} (h : Wf t) : t.name.length < 1000000000 := by cases t; rw [Wf] at h; exact h.1
theorem Wf.labLen {t : T} (h : Wf t) : t.labels.length < 1000000000 := by cases t; rw [Wf] at h; exact h.2.1
theorem Wf.labLens {t : T} (h : Wf t) : ∀ l ∈ t.labels, l.length < 1000000000 := by cases t; rw [Wf] at h; exact h.2.2.1

def bx (t : T) : Objs := [(0, some (.box [.d (.int .i64 t.kind), .d (.int .i64 t.prio), .d (.str t.name), .d (.int .i64 t.shift), .d (.sl 1 (t.labels.map .str)), .d (.sl 6 (t.kids.map T.data))]))]
theorem kidAt {t : T} {i : Nat} (hi : i < t.kids.length) : t.kids[i]? = some t.kids[i] := List.getElem?_eq_getElem hi

/-! ### count -/
def cntI (t : T) (m : Int) (i : Nat) : St := ⟨[(1, .d (.int .i64 (if (T.sizeL (t.kids.take i) : Int) ≤ m - 1 then m - 1 - T.sizeL (t.kids.take i) else -1))), (2, .ptr 0 0), (5, .d (.int .i64 i))], bx t, 1, 0, false⟩
theorem count_run (t : T) : ∀ (m : Int), Wf t → 0 ≤ m → m < 1000000 → RW 57 [.d t.data, .d (.int .i64 m)] [] = some (.d (.int .i64 (if (t.size : Int) ≤ m then m - t.size else -1)), []) := by
  induction t using T.ind with
  | h t ih =>
  intro m hw h0 h1
  have hs := T.size_eq t
  have hlen := hw.len
  have hloop := loop_p (keep := [1, 2, 5]) (c := c57_l0) (I := cntI t m) (n := t.kids.length) (P := fun _ => True) (Q := QE (fun fr => fget fr 1 = .d (.int .i64 (if (t.size : Int) ≤ m then m - t.size else -1))) 0 (fun _ => False)) (fun i hi _ => by
    have hi' : (i : Int) < t.kids.length := by omega
    have hk := kidAt hi
    have ht := T.sizeL_take t.kids i _ hk
    have hle := T.sizeL_le t.kids (i + 1)
    have hle0 := T.sizeL_le t.kids i
    have hpos : 1 ≤ t.kids[i].size := by rw [T.size_eq]; omega
    by_cases h : (T.sizeL (t.kids.take i) : Int) ≤ m - 1
    · have hih := ih t.kids[i] (List.getElem_mem hi) (m - 1 - T.sizeL (t.kids.take i)) (hw.kid (List.getElem_mem hi)) (by omega) (by omega)
      rw [T.data_eq] at hih
      have hge : decide (0 ≤ m - 1 - (T.sizeL (t.kids.take i) : Int)) = true := by simp; omega
      refine .inl ⟨?s, ?h1, ?h2, trivial⟩
      case h1 =>
        unfold c57_l0 cntI bx
        simp only [go_sem, if_pos h, hi', hge, hk, T.data_eq t.kids[i], hih]
        rfl
      case h2 =>
        rw [wrap64 (by omega) (by omega)]
        have e : (if (t.kids[i].size : Int) ≤ m - 1 - (T.sizeL (t.kids.take i) : Int) then m - 1 - (T.sizeL (t.kids.take i) : Int) - (t.kids[i].size : Int) else -1) = (if (T.sizeL (t.kids.take (i + 1)) : Int) ≤ m - 1 then m - 1 - T.sizeL (t.kids.take (i + 1)) else -1) := by
          rw [ht]
          split <;> split <;> omega
        rw [e]
        show _ = _
        kernel_rfl
    · refine .inr ⟨?e1, ?h1, ?h2, ?h3⟩
      case h1 =>
        unfold c57_l0 cntI bx
        simp only [go_sem, if_neg h, hi']
        rfl
      case h2 => intro h; cases h
      case h3 =>
        refine ⟨.inl ⟨rfl, ?_⟩, rfl, rfl⟩
        rw [if_neg (by omega)]
        rfl) (fun _ => by
    refine ⟨?e, ?h1, ?h2, ?h3⟩
    case h1 =>
      unfold c57_l0 cntI bx
      simp only [go_sem, List.take_length]
      rfl
    case h2 => intro h; cases h
    case h3 =>
      refine ⟨.inl ⟨rfl, ?_⟩, rfl, rfl⟩
      have e : (if (T.sizeL t.kids : Int) ≤ m - 1 then m - 1 - (T.sizeL t.kids : Int) else -1) = (if (t.size : Int) ≤ m then m - t.size else -1) := by
        rw [hs]; split <;> split <;> omega
      rw [← e]
      rfl) t.kids.length 0 (by omega) trivial
  obtain ⟨e, h2, hq⟩ := hloop
  rcases hq.out with ⟨fr, ob, nx, rfl, h4⟩ | ⟨fr, ob, nx, rfl, h4⟩
  · refine runW_fn rfl rfl ?_
    unfold runFn c57
    have e0 : cntI t m 0 = ⟨[(1, .d (.int .i64 (m - 1))), (2, .ptr 0 0), (5, .d (.int .i64 0))], bx t, 1, 0, false⟩ := by
      unfold cntI
      simp only [List.take_zero, T.sizeL]
      rw [show (if ((0 : Nat) : Int) ≤ m - 1 then m - 1 - ((0 : Nat) : Int) else -1) = m - 1 by split <;> omega]
      rfl
    rw [e0] at h2
    simp only [go_sem, T.data_eq t]
    rw [wrap64 (by omega) (by omega)]
    refine obind_mk (Eq.trans (by kernel_rfl) h2) ?_
    simp only [go_sem, h4]
  · exact h4.elim

/-! ### size, depth -/
def szI (t : T) (i : Nat) : St := ⟨[(1, .ptr 0 0), (3, .d (.int .i64 (1 + T.sizeL (t.kids.take i) : Nat))), (4, .d (.int .i64 i))], bx t, 1, 0, false⟩
theorem size_run (t : T) : t.size < 1000000000 → Wf t → RW 51 [.d t.data] [] = some (.d (.int .i64 t.size), []) := by
  induction t using T.ind with
  | h t ih =>
  intro hs hw
  have hlen := hw.len
  have hs' := T.size_eq t
  refine runW_fn rfl rfl ?_
  unfold runFn c51
  simp only [go_sem, T.data_eq t]
  refine obind_mk (a := ?e) (Eq.trans (by kernel_rfl) (loop_from0 (vf := vf) (att := att) (ext := ext) (keep := [1, 3, 4]) (c := c51_l0) (I := szI t) (n := t.kids.length) ?hs ?he ?hn)) ?rest
  case he =>
    unfold c51_l0 szI bx
    simp only [go_sem]
    rfl
  case hn => intro h; cases h
  case rest =>
    simp only [go_sem, List.take_length, ← hs']
  case hs =>
    intro i hi
    have hi' : (i : Int) < t.kids.length := by omega
    have hk := kidAt hi
    have hsz := T.sizeL_take t.kids i _ hk
    have hle := T.sizeL_le t.kids (i + 1)
    have hih := ih t.kids[i] (List.getElem_mem hi) (by omega) (hw.kid (List.getElem_mem hi))
    rw [T.data_eq] at hih
    refine ⟨?s, ?h1, ?h2⟩
    case h1 =>
      unfold c51_l0 szI bx
      simp only [go_sem, hi', hk, T.data_eq t.kids[i], hih]
      rfl
    case h2 =>
      rw [wrap64 (by omega) (by omega), wrap64 (by omega) (by omega), show (((1 + T.sizeL (List.take i t.kids) : Nat) : Int) + (t.kids[i].size : Int)) = ((1 + T.sizeL (List.take (i + 1) t.kids) : Nat) : Int) by omega]
      kernel_rfl

mutual
def dep : T → Nat
  | .mk _ _ _ _ _ ks => depL ks + 1
def depL : List T → Nat
  | [] => 0
  | t :: l => max (dep t) (depL l)
end
theorem dep_eq (t : T) : dep t = depL t.kids + 1 := by cases t; rw [dep]; rfl
theorem depL_take (l : List T) (i : Nat) (s : T) (h : l[i]? = some s) : depL (l.take (i + 1)) = max (depL (l.take i)) (dep s) := by
  induction l generalizing i with
  | nil => cases h
  | cons t l ih =>
    cases i with
    | zero => injection h with h; subst h; simp [depL]
    | succ i => simp only [List.take_succ_cons, depL]; rw [ih i h]; omega
theorem depL_mem {l : List T} {s : T} (h : s ∈ l) : dep s ≤ depL l := by
  induction l with
  | nil => cases h
  | cons t l ih =>
    rw [depL]
    rcases List.mem_cons.1 h with e | h
    · subst e; omega
    · have := ih h; omega
theorem dep_le (t : T) : dep t ≤ t.size := by
  induction t using T.ind with
  | h t ih =>
  rw [dep_eq, T.size_eq]
  have : ∀ l : List T, (∀ s ∈ l, dep s ≤ s.size) → depL l ≤ T.sizeL l := by
    intro l
    induction l with
    | nil => intro _; simp [depL]
    | cons x l ihl =>
      intro hx
      have h1 := hx x List.mem_cons_self
      have h2 := ihl fun s hs => hx s (List.mem_cons_of_mem _ hs)
      rw [depL, T.sizeL]; omega
  have := this t.kids ih
  omega
def dpI (t : T) (i : Nat) : St := ⟨[(1, .ptr 0 0), (3, .d (.int .i64 (depL (t.kids.take i) : Nat))), (4, .d (.int .i64 i))], bx t, 1, 0, false⟩
theorem depth_run (t : T) : t.size < 1000000000 → Wf t → RW 50 [.d t.data] [] = some (.d (.int .i64 (dep t)), []) := by
  induction t using T.ind with
  | h t ih =>
  intro hs hw
  have hlen := hw.len
  have hs' := T.size_eq t
  have hd := dep_le t
  have hd' := dep_eq t
  refine runW_fn rfl rfl ?_
  unfold runFn c50
  simp only [go_sem, T.data_eq t]
  refine obind_mk (a := ?e) (Eq.trans (by kernel_rfl) (loop_from0 (vf := vf) (att := att) (ext := ext) (keep := [1, 3, 4]) (c := c50_l0) (I := dpI t) (n := t.kids.length) ?hs ?he ?hn)) ?rest
  case he =>
    unfold c50_l0 dpI bx
    simp only [go_sem]
    rfl
  case hn => intro h; cases h
  case rest =>
    simp only [go_sem, List.take_length]
    rw [wrap64 (by omega) (by omega), hd']
    rfl
  case hs =>
    intro i hi
    have hi' : (i : Int) < t.kids.length := by omega
    have hk := kidAt hi
    have hsz := depL_take t.kids i _ hk
    have hm := T.size_mem (List.getElem_mem hi)
    have hih := ih t.kids[i] (List.getElem_mem hi) (by omega) (hw.kid (List.getElem_mem hi))
    rw [T.data_eq] at hih
    refine ⟨?s, ?h1, ?h2⟩
    case h1 =>
      unfold c50_l0 dpI bx
      simp only [go_sem, hi', hk, T.data_eq t.kids[i], hih]
      rfl
    case h2 =>
      rw [wrap64 (by omega) (by omega), show (max (depL (List.take i t.kids) : Int) (dep t.kids[i] : Int)) = ((depL (List.take (i + 1) t.kids) : Nat) : Int) by omega]
      kernel_rfl
end Go.Proofs.YtijfioakpngdhaaDoor

namespace Go.Proofs.YtijfioakpngdhaaDoor
open Go.V
set_option maxRecDepth 100000
set_option linter.unusedSimpArgs false
set_option linter.unusedVariables false

noncomputable def usesV (t : T) (x : List UInt8) : Int := resI 73 [.d t.data, .d (.str x)]
noncomputable def usesA (a0 : Int) (l : List T) (x : List UInt8) : Int := l.foldl (fun a s => if a ≤ 20000 then a + usesV s x else a) a0
theorem usesA_take (a0 : Int) (l : List T) (x : List UInt8) (i : Nat) (hi : i < l.length) : usesA a0 (l.take (i + 1)) x = if usesA a0 (l.take i) x ≤ 20000 then usesA a0 (l.take i) x + usesV l[i] x else usesA a0 (l.take i) x := by
  unfold usesA
  rw [List.take_succ_eq_append_getElem hi, List.foldl_append]
  rfl
theorem usesA_bound (a0 : Int) (l : List T) (x : List UInt8) (h0 : 0 ≤ a0 ∧ a0 ≤ 40001) (h : ∀ s ∈ l, 0 ≤ usesV s x ∧ usesV s x ≤ 20001) : 0 ≤ usesA a0 l x ∧ usesA a0 l x ≤ 40001 := by
  induction l generalizing a0 with
  | nil => exact h0
  | cons t l ih =>
    have ht := h t List.mem_cons_self
    show 0 ≤ usesA (if a0 ≤ 20000 then a0 + usesV t x else a0) l x ∧ _
    refine ih _ ?_ fun s hs => h s (List.mem_cons_of_mem _ hs)
    split <;> omega

def usI (a : Nat → Int) (t : T) (x : List UInt8) (i : Nat) : St := ⟨[(1, .d (.str x)), (2, .ptr 0 0), (5, .d (.int .i64 (a i))), (6, .d (.int .i64 i))], bx t, 1, 0, false⟩
theorem uses_ex (t : T) : ∀ (x : List UInt8), Wf t → ∃ v, RW 73 [.d t.data, .d (.str x)] [] = some (.d (.int .i64 v), []) ∧ 0 ≤ v ∧ v ≤ 20001 := by
  induction t using T.ind with
  | h t ih =>
  intro x hw
  have hlen := hw.len
  have hk : ∀ s ∈ t.kids, RW 73 [.d s.data, .d (.str x)] [] = some (.d (.int .i64 (usesV s x)), []) ∧ 0 ≤ usesV s x ∧ usesV s x ≤ 20001 := by
    intro s hs
    obtain ⟨v, h1, h2⟩ := ih s hs x (hw.kid hs)
    have e := resI_of h1
    exact ⟨resI_run h1, by unfold usesV; rw [e]; exact h2⟩
  have hloop : ∀ a0 : Int, 0 ≤ a0 → a0 ≤ 1 → ∃ e, LW [1, 2, 5, 6] c73_l0 (usI (fun i => usesA a0 (t.kids.take i) x) t x 0) = some e ∧ QE (fun fr => ∃ v, fget fr 5 = .d (.int .i64 v) ∧ 0 ≤ v) 0 (fun _ => False) e := by
    intro a0 h0 h1
    refine loop_p (keep := [1, 2, 5, 6]) (c := c73_l0) (I := usI (fun i => usesA a0 (t.kids.take i) x) t x) (n := t.kids.length) (P := fun _ => True) (fun i hi _ => ?_) (fun _ => ?_) t.kids.length 0 (by omega) trivial
    · have hi' : (i : Int) < t.kids.length := by omega
      have hkk := kidAt hi
      have hb := usesA_bound a0 (t.kids.take i) x (by omega) fun s hs => (hk s (List.mem_of_mem_take hs)).2
      have hs := usesA_take a0 t.kids x i hi
      have hu := hk t.kids[i] (List.getElem_mem hi)
      rw [T.data_eq] at hu
      by_cases h : usesA a0 (t.kids.take i) x ≤ 20000
      · refine .inl ⟨?s, ?h1, ?h2, trivial⟩
        case h1 =>
          unfold c73_l0 usI bx
          simp only [go_sem, hi', h, hkk, T.data_eq t.kids[i], hu.1]
          rfl
        case h2 =>
          rw [wrap64 (by omega) (by omega), wrap64 (by omega) (by omega)]
          rw [if_pos h] at hs
          rw [← hs]
          show _ = _
          kernel_rfl
      · refine .inr ⟨?e1, ?h1, ?h2, ?h3⟩
        case h1 =>
          unfold c73_l0 usI bx
          simp only [go_sem, hi', h]
          rfl
        case h2 => intro h; cases h
        case h3 => exact ⟨.inl ⟨rfl, _, rfl, hb.1⟩, rfl, rfl⟩
    · have hb := usesA_bound a0 (t.kids.take t.kids.length) x (by omega) fun s hs => (hk s (List.mem_of_mem_take hs)).2
      refine ⟨?e, ?h1, ?h2, ?h3⟩
      case h1 =>
        unfold c73_l0 usI bx
        simp only [go_sem]
        rfl
      case h2 => intro h; cases h
      case h3 => exact ⟨.inl ⟨rfl, _, rfl, hb.1⟩, rfl, rfl⟩
  have main : ∀ a0 : Int, 0 ≤ a0 → a0 ≤ 1 → (a0 = 1 ↔ t.kind = 9 ∧ t.name = x) → ∃ v, RW 73 [.d t.data, .d (.str x)] [] = some (.d (.int .i64 v), []) ∧ 0 ≤ v ∧ v ≤ 20001 := by
    intro a0 h0 h1 ha
    obtain ⟨e, h2, hq⟩ := hloop a0 h0 h1
    rcases hq.out with ⟨fr, ob, nx, rfl, v, h4, h5⟩ | ⟨fr, ob, nx, rfl, h4⟩
    · refine ⟨min v 20001, runW_fn rfl rfl ?_, by omega, by omega⟩
      unfold runFn c73
      by_cases hkd : t.kind = 9
      · by_cases hnm : t.name = x
        · have : a0 = 1 := ha.2 ⟨hkd, hnm⟩
          subst this
          have hkd' := decide_eq_true hkd
          have hnm' := decide_eq_true hnm
          simp only [go_sem, T.data_eq t, hkd', hnm']
          refine obind_mk (Eq.trans (by kernel_rfl) h2) ?_
          simp only [go_sem, h4]
        · have : a0 = 0 := by
            have : ¬ a0 = 1 := fun h => hnm (ha.1 h).2
            omega
          subst this
          have hkd' := decide_eq_true hkd
          simp only [go_sem, T.data_eq t, hkd', hnm]
          refine obind_mk (Eq.trans (by kernel_rfl) h2) ?_
          simp only [go_sem, h4]
      · have : a0 = 0 := by
          have : ¬ a0 = 1 := fun h => hkd (ha.1 h).1
          omega
        subst this
        simp only [go_sem, T.data_eq t, hkd]
        refine obind_mk (Eq.trans (by kernel_rfl) h2) ?_
        simp only [go_sem, h4]
    · exact h4.elim
  by_cases h : t.kind = 9 ∧ t.name = x
  · exact main 1 (by omega) (by omega) ⟨fun _ => h, fun _ => rfl⟩
  · exact main 0 (by omega) (by omega) ⟨fun e => by omega, fun e => absurd e h⟩
theorem uses_run (t : T) (x : List UInt8) (hw : Wf t) : RW 73 [.d t.data, .d (.str x)] [] = some (.d (.int .i64 (usesV t x)), []) ∧ 0 ≤ usesV t x ∧ usesV t x ≤ 20001 := by
  obtain ⟨v, h1, h2⟩ := uses_ex t x hw
  have e := resI_of h1
  exact ⟨resI_run h1, by unfold usesV; rw [e]; exact h2⟩

noncomputable def spreadV (t : T) : Int := resI 58 [.d t.data]
noncomputable def spreadA (l : List T) : Int := l.foldl (fun a s => max a (spreadV s)) 1
theorem spreadA_take (l : List T) (i : Nat) (hi : i < l.length) : spreadA (l.take (i + 1)) = max (spreadA (l.take i)) (spreadV l[i]) := by
  unfold spreadA
  rw [List.take_succ_eq_append_getElem hi, List.foldl_append]
  rfl
theorem spreadA_bound (l : List T) (h : ∀ s ∈ l, spreadV s ≤ 20001) : 1 ≤ spreadA l ∧ spreadA l ≤ 20001 := by
  have : ∀ (l : List T) (a0 : Int), 1 ≤ a0 → a0 ≤ 20001 → (∀ s ∈ l, spreadV s ≤ 20001) → 1 ≤ l.foldl (fun a s => max a (spreadV s)) a0 ∧ l.foldl (fun a s => max a (spreadV s)) a0 ≤ 20001 := by
    intro l
    induction l with
    | nil => intro a0 h1 h2 _; exact ⟨h1, h2⟩
    | cons t l ih =>
      intro a0 h1 h2 h
      have := h t List.mem_cons_self
      exact ih _ (by show 1 ≤ max a0 (spreadV t); omega) (by show max a0 (spreadV t) ≤ 20001; omega) fun s hs => h s (List.mem_cons_of_mem _ hs)
  exact this l 1 (by omega) (by omega) h
def spI (t : T) (i : Nat) : St := ⟨[(1, .ptr 0 0), (3, .d (.int .i64 0)), (4, .d (.int .i64 i))], bx t, 1, 0, false⟩
noncomputable def sprI (t : T) (i : Nat) : St := ⟨[(1, .ptr 0 0), (3, .d (.int .i64 (spreadA (t.kids.take i)))), (4, .d (.int .i64 i))], bx t, 1, 0, false⟩
theorem spread_ex (t : T) : Wf t → ∃ v, RW 58 [.d t.data] [] = some (.d (.int .i64 v), []) ∧ 1 ≤ v ∧ v ≤ 20001 := by
  induction t using T.ind with
  | h t ih =>
  intro hw
  have hlen := hw.len
  have hk : ∀ s ∈ t.kids, RW 58 [.d s.data] [] = some (.d (.int .i64 (spreadV s)), []) ∧ 1 ≤ spreadV s ∧ spreadV s ≤ 20001 := by
    intro s hs
    obtain ⟨v, h1, h2⟩ := ih s hs (hw.kid hs)
    have e := resI_of h1
    exact ⟨resI_run h1, by unfold spreadV; rw [e]; exact h2⟩
  have hloop := loop_p (keep := [1, 3, 4]) (c := c58_l0) (I := sprI t) (n := t.kids.length) (P := fun _ => True) (Q := fun e => QE (fun fr => ∃ v, fget fr 3 = .d (.int .i64 v) ∧ 1 ≤ v ∧ v ≤ 20001) 0 (fun _ => False) e ∧ e.2.ob = bx t ∧ fget e.2.fr 1 = .ptr 0 0) (fun i hi _ => by
    have hi' : (i : Int) < t.kids.length := by omega
    have hkk := kidAt hi
    have hs := spreadA_take t.kids i hi
    have hu := hk t.kids[i] (List.getElem_mem hi)
    rw [T.data_eq] at hu
    refine .inl ⟨?s, ?h1, ?h2, trivial⟩
    case h1 =>
      unfold c58_l0 sprI bx
      simp only [go_sem, hi', hkk, T.data_eq t.kids[i], hu.1]
      rfl
    case h2 =>
      rw [wrap64 (by omega) (by omega), ← hs]
      show _ = _
      kernel_rfl) (fun _ => by
    have hb := spreadA_bound (t.kids.take t.kids.length) fun s hs => (hk s (List.mem_of_mem_take hs)).2.2
    refine ⟨?e, ?h1, ?h2, ?h3⟩
    case h1 =>
      unfold c58_l0 sprI bx
      simp only [go_sem]
      rfl
    case h2 => intro h; cases h
    case h3 => exact ⟨⟨.inl ⟨rfl, _, rfl, hb⟩, rfl, rfl⟩, rfl, rfl⟩) t.kids.length 0 (by omega) trivial
  obtain ⟨e, h2, hq, hob, hf1⟩ := hloop
  rcases hq.out with ⟨fr, ob, nx, rfl, v, h4, h5, h6⟩ | ⟨fr, ob, nx, rfl, h4⟩
  · dsimp only at hob hf1
    subst hob
    by_cases hkd : t.kind = 8
    · cases hkl : t.kids with
      | nil =>
        refine ⟨min v 20001, runW_fn rfl rfl ?_, by omega, by omega⟩
        unfold runFn c58
        simp only [go_sem, T.data_eq t]
        refine obind_mk (Eq.trans (by kernel_rfl) h2) ?_
        have hl0 : t.kids.length = 0 := by rw [hkl]; rfl
        unfold bx
        simp only [go_sem, h4, hf1, hkd, hl0]
      | cons k0 kl =>
        have hk0 : k0 ∈ t.kids := by rw [hkl]; exact List.mem_cons_self
        have hu := uses_run k0 t.name (hw.kid hk0)
        rw [T.data_eq] at hu
        have hl0 : decide (0 < (t.kids.length : Int)) = true := by rw [hkl]; simp
        have hg : t.kids[0]? = some k0 := by rw [hkl]; rfl
        have hm1 : 0 ≤ v * (1 + usesV k0 t.name) := Int.mul_nonneg (by omega) (by omega)
        have hm2 : v * (1 + usesV k0 t.name) ≤ 20001 * 20002 := Int.mul_le_mul h6 (by omega) (by omega) (by omega)
        have hm3 : 1 * 1 ≤ v * (1 + usesV k0 t.name) := Int.mul_le_mul h5 (by omega) (by omega) (by omega)
        refine ⟨min (v * (1 + usesV k0 t.name)) 20001, runW_fn rfl rfl ?_, by omega, by omega⟩
        unfold runFn c58
        simp only [go_sem, T.data_eq t]
        refine obind_mk (Eq.trans (by kernel_rfl) h2) ?_
        unfold bx
        simp only [go_sem, h4, hf1, hkd, hl0, hg, T.data_eq k0, hu.1]
        rw [wrap64 (x := 1 + usesV k0 t.name) (by omega) (by omega), wrap64 (by omega) (by omega)]
    · refine ⟨min v 20001, runW_fn rfl rfl ?_, by omega, by omega⟩
      unfold runFn c58
      simp only [go_sem, T.data_eq t]
      refine obind_mk (Eq.trans (by kernel_rfl) h2) ?_
      unfold bx
      simp only [go_sem, h4, hf1, hkd]
  · exact h4.elim
theorem spread_run (t : T) (hw : Wf t) : RW 58 [.d t.data] [] = some (.d (.int .i64 (spreadV t)), []) ∧ 1 ≤ spreadV t ∧ spreadV t ≤ 20001 := by
  obtain ⟨v, h1, h2⟩ := spread_ex t hw
  have e := resI_of h1
  exact ⟨resI_run h1, by unfold spreadV; rw [e]; exact h2⟩

noncomputable def flatB (t : T) : Bool := decide ((t.size : Int) * spreadV t ≤ 20000)
theorem flat_run (t : T) (hw : Wf t) (hs : t.size < 1000000000) : RW 44 [.d t.data] [] = some (.d (.bool (flatB t)), []) := by
  have h1 := size_run t hs hw
  have h2 := spread_run t hw
  rw [T.data_eq] at h1 h2
  have hm1 : 0 ≤ (t.size : Int) * spreadV t := Int.mul_nonneg (by omega) (by omega)
  have hm2 : (t.size : Int) * spreadV t ≤ 1000000000 * 20001 := Int.mul_le_mul (by omega) (by omega) (by omega) (by omega)
  refine runW_fn rfl rfl ?_
  unfold runFn c44 flatB
  simp only [go_sem, T.data_eq t, h1, h2.1, keysOf, pairsOk, List.cons_append, List.nil_append, List.getD_cons_succ, List.getD_cons_zero, effOk, disjointL, mem]
  rw [wrap64 (by omega) (by omega)]
def fewB (t : T) (m : Int) : Bool := decide ((t.size : Int) ≤ m) && decide ((dep t : Int) ≤ 150)
theorem few_run (t : T) (m : Int) (hw : Wf t) (h0 : 0 ≤ m) (h1 : m < 1000000) : RW 43 [.d t.data, .d (.int .i64 m)] [] = some (.d (.bool (fewB t m)), []) := by
  have hc := count_run t m hw h0 h1
  refine runW_fn rfl rfl ?_
  unfold runFn c43 fewB
  by_cases h : (t.size : Int) ≤ m
  · have hd := depth_run t (by omega) hw
    rw [T.data_eq] at hd hc
    rw [if_pos h] at hc
    have hge : decide (0 ≤ m - (t.size : Int)) = true := by simp; omega
    simp only [go_sem, T.data_eq t, hc, hd, hge, h]
  · rw [if_neg h] at hc
    rw [T.data_eq] at hc
    simp only [go_sem, T.data_eq t, hc, h]
end Go.Proofs.YtijfioakpngdhaaDoor

namespace Go.Proofs.YtijfioakpngdhaaDoor
open Go.V
set_option maxRecDepth 100000
set_option linter.unusedSimpArgs false
set_option linter.unusedVariables false

noncomputable def labB (l : List (List UInt8)) : Bool := ans 78 [.d (.sl 1 (l.map .str))]
theorem lab_run (l : List (List UInt8)) (hs : l.length < 1000000000) (hx : ∀ x ∈ l, x.length < 1000000000) : RW 78 [.d (.sl 1 (l.map .str))] [] = some (.d (.bool (labB l)), []) ∧ (labB l = true ↔ Lab l) := by
  obtain ⟨b, h1, h2⟩ := labels_run l hs hx
  have h3 := ans_of ⟨b, h1⟩
  refine ⟨h3, ?_⟩
  rw [h1] at h3
  injection h3 with h3
  injection h3 with h3 _
  injection h3 with h3
  injection h3 with h3
  show ans 78 [.d (.sl 1 (l.map .str))] = true ↔ _
  rw [← h3]; exact h2

noncomputable def shapeB (t : T) : Bool :=
  cond (decide (t.kind = 1) || (decide (t.kind = 2) || decide (t.kind = 3))) (decide (t.prio = 0) && (decide (t.name = []) && (decide (t.shift = 0) && (decide ((t.labels.length : Int) = 0) && decide ((t.kids.length : Int) = 0)))))
  (cond (decide (t.kind = 4) || decide (t.kind = 5)) (prioB t.prio && (decide (t.name = []) && (decide (t.shift = 0) && (decide ((t.labels.length : Int) = 0) && decide ((t.kids.length : Int) = 2)))))
  (cond (decide (t.kind = 6) || decide (t.kind = 7)) (prioB t.prio && (decide (t.name = []) && (decide (t.shift = 0) && (decide (0 < (t.labels.length : Int)) && (labB t.labels && decide ((t.kids.length : Int) = t.labels.length))))))
  (cond (decide (t.kind = 8)) (decide (t.prio = 0) && (nameB t.name && (decide (t.shift = 0) && (decide ((t.labels.length : Int) = 0) && decide ((t.kids.length : Int) = 1)))))
  (cond (decide (t.kind = 9)) (decide (t.prio = 0) && (nameB t.name && (prioB t.shift && (decide ((t.labels.length : Int) = 0) && decide ((t.kids.length : Int) = 0))))) false))))
theorem shape_run (t : T) (hw : Wf t) : RW 68 [.d t.data] [] = some (.d (.bool (shapeB t)), []) := by
  have h1 := prio_run t.prio
  have h2 := prio_run t.shift
  have h3 := name_run t.name hw.nameLen
  have h4 := (lab_run t.labels hw.labLen hw.labLens).1
  refine runW_fn rfl rfl ?_
  unfold runFn c68 shapeB
  simp only [go_sem, T.data_eq t, h1, h2, h3, h4]
  clear hw
  repeat' first
    | (refine gsplit (fun h => ?_) (fun h => ?_) <;> (try simp only [go_sem, *]); done)
    | (refine gsplit (fun h => ?_) (fun h => ?_) <;> (try simp only [go_sem, *]))
    | (refine csplit (fun h => ?_) (fun h => ?_) <;> (try simp only [go_sem, *]))
end Go.Proofs.YtijfioakpngdhaaDoor

namespace Go.Proofs.YtijfioakpngdhaaDoor
open Go.V
set_option maxRecDepth 100000
set_option linter.unusedSimpArgs false
set_option linter.unusedVariables false

theorem sizes_str : ∀ l : List (List UInt8), sizesOk 1 (l.map .str) = true
  | [] => rfl
  | x :: l => by
    show (decide ((V.Data.str x).cells.length = 1) && sizesOk 1 (l.map .str)) = true
    rw [sizes_str l]; rfl
@[go_sem] theorem x_appR (sz bytes base : Nat) (ob : Objs) (x : AV) (yn : List Nat) (s : Nat) (ys : List V.Data) : appR sz bytes base ob x yn (some (.sl s ys)) = need (sizesOk sz ys) (appX sz bytes base ys yn ob x) := nr rfl
@[go_sem] theorem x_appX_o (sz bytes base : Nat) (ob : Objs) (o : Nat) (yn : List Nat) (ys : List V.Data) : appX sz bytes base ys yn ob (.own o) = appOwn sz bytes base o ys yn (oget ob o) := nr rfl
@[go_sem] theorem x_appOwn (sz bytes base o : Nat) (yn : List Nat) (ys : List V.Data) (sz' : Nat) (xs : List V.Data) (u : Bool) : appOwn sz bytes base o ys yn (some (.arr sz' xs u)) =
    need (Nat.beq sz sz' && (decide ((xs.length + ys.length) * bytes ≤ 140737488355328) && !mem o yn)) (some ⟨.own base, [(base, some (.arr sz (xs ++ ys) u)), (o, none)], o :: yn⟩) := nr rfl
@[go_sem] theorem x_bslice (sz base : Nat) (vs : List AV) (ob : Objs) : bsliceR sz base vs ob = obind (allSome (AV.toData ob) vs) fun xs => need (sizesOk sz xs) (some ⟨.own base, (base, some (.arr sz xs true)) :: shareUpd ob (sharedL vs), sharedL vs⟩) := nr rfl
@[go_sem] theorem x_toDo (ob : Objs) (o : Nat) : AV.toD ob (.own o) = (match oget ob o with | some (.arr sz xs _) => some (V.Data.sl sz xs) | _ => none) := rfl
@[go_sem] theorem x_toDd (ob : Objs) (x : V.Data) : AV.toD ob (.d x) = some x := rfl
@[go_sem] theorem x_toDn (ob : Objs) (n : Nat) : AV.toD ob (.nils n) = some (.sl n []) := rfl
@[go_sem] theorem x_toDad (ob : Objs) (x : V.Data) : AV.toData ob (.d x) = some x := rfl
@[go_sem] theorem x_viewL0 (ob : Objs) : viewArgs ob [] = [] := rfl
@[go_sem] theorem x_viewL1 (ob : Objs) (v : AV) (l : List AV) : viewArgs ob (v :: l) = v.view ob :: viewArgs ob l := rfl
@[go_sem] theorem x_vd (ob : Objs) (x : V.Data) : (AV.d x).view ob = .d x := rfl
@[go_sem] theorem x_vn (ob : Objs) (n : Nat) : (AV.nils n).view ob = .d (.sl n []) := rfl
@[go_sem] theorem x_vo (ob : Objs) (o : Nat) : (AV.own o).view ob = (match (match oget ob o with | some (.arr sz xs _) => some (V.Data.sl sz xs) | _ => none) with | some x => .d x | none => .own o) := rfl
@[go_sem] theorem x_sh0 : sharedL [] = [] := rfl
@[go_sem] theorem x_shd (x : V.Data) (l : List AV) : sharedL (.d x :: l) = sharedL l := rfl
@[go_sem] theorem x_shn (x : Nat) (l : List AV) : sharedL (.nils x :: l) = sharedL l := rfl
@[go_sem] theorem x_sho (o : Nat) (l : List AV) : sharedL (.own o :: l) = o :: sharedL l := rfl
@[go_sem] theorem x_nm0 : namesL [] = [] := rfl
@[go_sem] theorem x_nmd (x : V.Data) (l : List AV) : namesL (.d x :: l) = namesL l := rfl
@[go_sem] theorem x_nmn (x : Nat) (l : List AV) : namesL (.nils x :: l) = namesL l := rfl
@[go_sem] theorem x_nmo (o : Nat) (l : List AV) : namesL (.own o :: l) = o :: namesL l := rfl
@[go_sem] theorem x_reach0 (ob : Objs) (seen : List Nat) : reach ob 1000 [] seen = seen := rfl
@[go_sem] theorem x_ren0 (ρ : Nat → Option Nat) : renL ρ [] = [] := rfl
@[go_sem] theorem x_rend (ρ : Nat → Option Nat) (x : V.Data) (l : List AV) : renL ρ (.d x :: l) = .d x :: renL ρ l := rfl
@[go_sem] theorem x_sub0 (ob : Objs) (ρ : Nat → Option Nat) (i : Nat) : subObjs ob ρ i [] = [] := rfl
@[go_sem] theorem x_su0 (ob : Objs) : shareUpd ob [] = [] := rfl
@[go_sem] theorem x_su1 (ob : Objs) (o : Nat) (l : List Nat) : shareUpd ob (o :: l) = (match oget ob o with | some (.arr sz xs true) => (o, some (.arr sz xs false)) :: shareUpd ob l | _ => shareUpd ob l) := by
  rw [shareUpd]; rfl
@[go_sem] theorem x_looked (ob : Objs) (args : List AV) (n : List Nat) : looked ob args n = namesL args ++ namesObs ob n := rfl
@[go_sem] theorem x_nobs (ob : Objs) : namesObs ob [] = [] := rfl
@[go_sem] theorem x_back (k ro : Bool) (base : Nat) (sh : Objs) (rd : List Nat) (x : V.Data) : callBack ⟨false, k, ro⟩ base [] sh rd (.d x, []) = need (k || (x.flat && true)) (some ⟨.d x, bcond k (fun _ => sh) (fun _ => []), rd⟩) := by
  unfold callBack
  cases k <;> cases ro <;> rfl
attribute [go_sem] AV.ownNames keysOf pairsOk List.cons_append List.nil_append List.getD_cons_succ List.getD_cons_zero effOk disjointL mem sizesOk List.append_nil

noncomputable def nodeV (t : T) (names : List (List UInt8)) (g : Int) (ses : Bool) : Int := resI 52 [.d t.data, .d (.sl 1 (names.map .str)), .d (.int .i64 g), .d (.bool ses)]
/-- the last place of a name -/
def findE (names : List (List UInt8)) (x : List UInt8) (g : Int) : Nat → Int
  | 0 => 4
  | m + 1 => if names[m]? = some x then (if (m : Int) < g then 0 else 3) else findE names x g m
theorem findE_succ (names : List (List UInt8)) (x : List UInt8) (g : Int) (m : Nat) : findE names x g (m + 1) = if names[m]? = some x then (if (m : Int) < g then 0 else 3) else findE names x g m := rfl
/-- the first error of some nodes -/
noncomputable def nodeL (names : List (List UInt8)) (all : Bool) : List T → Nat → Int
  | [], _ => 0
  | t :: l, i => if nodeV t names names.length (decide (0 < i) || all) = 0 then nodeL names all l (i + 1) else nodeV t names names.length (decide (0 < i) || all)
noncomputable def nodeS (t : T) (names : List (List UInt8)) (g : Int) (ses : Bool) : Int :=
  if shapeB t = false ∨ ses = true ∧ (t.kind = 1 ∨ t.kind = 2) then 3
  else if t.kind = 9 then findE names t.name g names.length
  else if t.kind = 8 then (match t.kids with | s :: _ => nodeV s (names ++ [t.name]) g true | [] => 0)
  else nodeL names (decide (5 < t.kind)) t.kids 0

def nfI (t : T) (names : List (List UInt8)) (g : Int) (j : Nat) : St := ⟨[(1, .d (.sl 1 (names.map .str))), (2, .d (.int .i64 g)), (4, .ptr 0 0), (9, .d (.int .i64 ((names.length : Int) - ((j + 1 : Nat) : Int))))], bx t, 1, 0, false⟩
theorem find_loop (t : T) (names : List (List UInt8)) (g : Int) (hn : names.length < 1000000000) : ∃ e, LW [1, 2, 4, 9] c52_l1 (nfI t names g 0) = some e ∧ QE (fun _ => findE names t.name g names.length = 4) 0 (fun fr => fget fr 8 = .d (.int .i64 (findE names t.name g names.length))) e := by
  refine loop_p (keep := [1, 2, 4, 9]) (c := c52_l1) (I := nfI t names g) (n := names.length) (P := fun j => findE names t.name g names.length = findE names t.name g (names.length - j)) (fun j hj hp => ?_) (fun hp => ?_) names.length 0 (by omega) rfl
  · have h0 : decide (0 ≤ (names.length : Int) - ((j + 1 : Nat) : Int)) = true := by simp; omega
    have ht : ((names.length : Int) - ((j + 1 : Nat) : Int)).toNat = names.length - 1 - j := by omega
    have hk : names[names.length - 1 - j]? = some (names[names.length - 1 - j]'(by omega)) := List.getElem?_eq_getElem _
    have hst : names.length - j = (names.length - 1 - j) + 1 := by omega
    have hc : ((names.length - 1 - j : Nat) : Int) = (names.length : Int) - ((j + 1 : Nat) : Int) := by omega
    rw [hst, findE_succ] at hp
    generalize hx : names[names.length - 1 - j]'(by omega) = x at hk
    rw [hk] at hp
    by_cases h : x = t.name
    · rw [if_pos (by rw [h]), hc] at hp
      have h' := decide_eq_true h
      by_cases hl : (names.length : Int) - ((j + 1 : Nat) : Int) < g
      · refine .inr ⟨?e1, ?h1, ?h2, ?h3⟩
        case h1 =>
          unfold c52_l1 nfI bx
          simp only [go_sem, h0, ht, hk, h', hl]
          rfl
        case h2 => intro h; cases h
        case h3 =>
          rw [if_pos hl] at hp
          exact ⟨.inr ⟨rfl, by rw [hp]; rfl⟩, rfl, rfl⟩
      · refine .inr ⟨?e2, ?h1, ?h2, ?h3⟩
        case h1 =>
          unfold c52_l1 nfI bx
          simp only [go_sem, h0, ht, hk, h', hl]
          rfl
        case h2 => intro h; cases h
        case h3 =>
          rw [if_neg hl] at hp
          exact ⟨.inr ⟨rfl, by rw [hp]; rfl⟩, rfl, rfl⟩
    · rw [if_neg (fun e => h (Option.some.inj e))] at hp
      refine .inl ⟨?s, ?h1, ?h2, ?h3⟩
      case h1 =>
        unfold c52_l1 nfI bx
        simp only [go_sem, h0, ht, hk, h]
        rfl
      case h2 =>
        rw [wrap64 (by omega) (by omega), show ((names.length : Int) - ((j + 1 : Nat) : Int) - 1) = (names.length : Int) - ((j + 1 + 1 : Nat) : Int) by omega]
        kernel_rfl
      case h3 => rw [hp, show names.length - (j + 1) = names.length - 1 - j by omega]
  · have h0 : decide (0 ≤ (names.length : Int) - ((names.length + 1 : Nat) : Int)) = false := by simp; omega
    rw [Nat.sub_self] at hp
    refine ⟨?e, ?h1, ?h2, ?h3⟩
    case h1 =>
      unfold c52_l1 nfI bx
      simp only [go_sem, h0]
      rfl
    case h2 => intro h; cases h
    case h3 => exact ⟨.inl ⟨rfl, hp⟩, rfl, rfl⟩

def nkI (t : T) (names : List (List UInt8)) (i : Nat) : St := ⟨[(1, .d (.sl 1 (names.map .str))), (4, .ptr 0 0), (10, .d (.int .i64 i))], bx t, 1, 0, false⟩
theorem kids_loop (t : T) (names : List (List UInt8)) (hlen : t.kids.length < 1000000000)
    (hk : ∀ s ∈ t.kids, ∀ b, RW 52 [.d s.data, .d (.sl 1 (names.map .str)), .d (.int .i64 names.length), .d (.bool b)] [] = some (.d (.int .i64 (nodeV s names names.length b)), [])) :
    ∃ e, LW [1, 4, 10] c52_l0 (nkI t names 0) = some e ∧ QE (fun _ => nodeL names (decide (5 < t.kind)) t.kids 0 = 0) 2 (fun fr => fget fr 8 = .d (.int .i64 (nodeL names (decide (5 < t.kind)) t.kids 0))) e := by
  refine loop_p (keep := [1, 4, 10]) (c := c52_l0) (I := nkI t names) (n := t.kids.length) (P := fun i => nodeL names (decide (5 < t.kind)) t.kids 0 = nodeL names (decide (5 < t.kind)) (t.kids.drop i) i) (fun i hi hp => ?_) (fun hp => ?_) t.kids.length 0 (by omega) rfl
  · have hi' : (i : Int) < t.kids.length := by omega
    have hkk := kidAt hi
    rw [List.drop_eq_getElem_cons hi, nodeL] at hp
    have hu := hk t.kids[i] (List.getElem_mem hi)
    rw [T.data_eq] at hu
    by_cases h0 : 0 < i
    · have h0' : decide (0 < (i : Int)) = true := by simp; omega
      rw [decide_eq_true h0, Bool.true_or] at hp
      by_cases hz : nodeV t.kids[i] names names.length true = 0
      · rw [if_pos hz] at hp
        refine .inl ⟨?s, ?h1, ?h2, hp⟩
        case h1 =>
          unfold c52_l0 nkI bx
          simp only [go_sem, hi', h0', hkk, T.data_eq t.kids[i], hu, hz]
          rfl
        case h2 =>
          rw [wrap64 (by omega) (by omega)]
          kernel_rfl
      · rw [if_neg hz] at hp
        refine .inr ⟨?e1, ?h1, ?h2, ?h3⟩
        case h1 =>
          unfold c52_l0 nkI bx
          simp only [go_sem, hi', h0', hkk, T.data_eq t.kids[i], hu, hz]
          rfl
        case h2 => intro h; cases h
        case h3 => exact ⟨.inr ⟨rfl, by rw [hp]; rfl⟩, rfl, rfl⟩
    · have h0' : decide (0 < (i : Int)) = false := by simp; omega
      rw [decide_eq_false h0, Bool.false_or] at hp
      by_cases hz : nodeV t.kids[i] names names.length (decide (5 < t.kind)) = 0
      · rw [if_pos hz] at hp
        refine .inl ⟨?s2, ?h1, ?h2, hp⟩
        case h1 =>
          unfold c52_l0 nkI bx
          simp only [go_sem, hi', h0', hkk, T.data_eq t.kids[i], hu, hz]
          rfl
        case h2 =>
          rw [wrap64 (by omega) (by omega)]
          kernel_rfl
      · rw [if_neg hz] at hp
        refine .inr ⟨?e2, ?h1, ?h2, ?h3⟩
        case h1 =>
          unfold c52_l0 nkI bx
          simp only [go_sem, hi', h0', hkk, T.data_eq t.kids[i], hu, hz]
          rfl
        case h2 => intro h; cases h
        case h3 => exact ⟨.inr ⟨rfl, by rw [hp]; rfl⟩, rfl, rfl⟩
  · rw [List.drop_length, nodeL] at hp
    refine ⟨?e, ?h1, ?h2, ?h3⟩
    case h1 =>
      unfold c52_l0 nkI bx
      simp only [go_sem]
      rfl
    case h2 => intro h; cases h
    case h3 => exact ⟨.inl ⟨rfl, hp⟩, rfl, rfl⟩

theorem node_ex (t : T) : ∀ (names : List (List UInt8)) (g : Int) (ses : Bool), Wf t → names.length + t.size < 1000000000 →
    RW 52 [.d t.data, .d (.sl 1 (names.map .str)), .d (.int .i64 g), .d (.bool ses)] [] = some (.d (.int .i64 (nodeS t names g ses)), []) := by
  induction t using T.ind with
  | h t ih =>
  intro names g ses hw hs
  have hsz := T.size_eq t
  have hlen := hw.len
  have hk : ∀ s ∈ t.kids, ∀ ns g b, ns.length + s.size < 1000000000 → RW 52 [.d s.data, .d (.sl 1 (ns.map .str)), .d (.int .i64 g), .d (.bool b)] [] = some (.d (.int .i64 (nodeV s ns g b)), []) :=
    fun s hm ns g b hb => resI_run (ih s hm ns g b (hw.kid hm) hb)
  have hsh := shape_run t hw
  have hse := session_run t
  rw [T.data_eq] at hsh hse
  by_cases h1 : shapeB t = false
  · have e : nodeS t names g ses = 3 := by unfold nodeS; rw [if_pos (.inl h1)]
    rw [e]
    refine runW_fn rfl rfl ?_
    unfold runFn c52
    simp only [go_sem, T.data_eq t, hsh, h1]
  · have h1' : shapeB t = true := by cases hb : shapeB t; exact absurd hb h1; rfl
    by_cases h2 : ses = true ∧ (t.kind = 1 ∨ t.kind = 2)
    · have e : nodeS t names g ses = 3 := by unfold nodeS; rw [if_pos (.inr h2)]
      rw [e]
      obtain ⟨hs1, h2⟩ := h2
      subst hs1
      refine runW_fn rfl rfl ?_
      unfold runFn c52
      rcases h2 with h2 | h2
      · simp only [go_sem, T.data_eq t, hsh, h1', hse, decide_eq_true h2]
      · simp only [go_sem, T.data_eq t, hsh, h1', hse, decide_eq_true h2]
    · have hsess : ses = false ∨ ses = true ∧ decide (t.kind = 1) = false ∧ decide (t.kind = 2) = false := by
        cases ses with
        | false => exact .inl rfl
        | true => exact .inr ⟨rfl, decide_eq_false fun e => h2 ⟨rfl, .inl e⟩, decide_eq_false fun e => h2 ⟨rfl, .inr e⟩⟩
      have hn2 : ¬ (shapeB t = false ∨ ses = true ∧ (t.kind = 1 ∨ t.kind = 2)) := fun h => h.elim h1 h2
      by_cases h9 : t.kind = 9
      · have e : nodeS t names g ses = findE names t.name g names.length := by unfold nodeS; rw [if_neg hn2, if_pos h9]
        rw [e]
        have h9' := decide_eq_true h9
        obtain ⟨e, hl, hq⟩ := find_loop t names g (by omega)
        rcases hq.out with ⟨fr, ob, nx, rfl, h4⟩ | ⟨fr, ob, nx, rfl, h4⟩
        · rw [h4]
          refine runW_fn rfl rfl ?_
          unfold runFn c52
          rcases hsess with hse1 | ⟨hse1, hk1, hk2⟩
          · subst hse1
            simp only [go_sem, T.data_eq t, hsh, h1', hse, h9']
            rw [wrap64 (by omega) (by omega)]
            refine obind_mk (Eq.trans (by kernel_rfl) hl) ?_
            simp only [go_sem]
          · subst hse1
            simp only [go_sem, T.data_eq t, hsh, h1', hse, hk1, hk2, h9']
            rw [wrap64 (by omega) (by omega)]
            refine obind_mk (Eq.trans (by kernel_rfl) hl) ?_
            simp only [go_sem]
        · refine runW_fn rfl rfl ?_
          unfold runFn c52
          rcases hsess with hse1 | ⟨hse1, hk1, hk2⟩
          · subst hse1
            simp only [go_sem, T.data_eq t, hsh, h1', hse, h9']
            rw [wrap64 (by omega) (by omega)]
            refine obind_mk (Eq.trans (by kernel_rfl) hl) ?_
            simp only [go_sem, h4]
          · subst hse1
            simp only [go_sem, T.data_eq t, hsh, h1', hse, hk1, hk2, h9']
            rw [wrap64 (by omega) (by omega)]
            refine obind_mk (Eq.trans (by kernel_rfl) hl) ?_
            simp only [go_sem, h4]
      · by_cases h8 : t.kind = 8
        · have hkl : ∃ s, t.kids = [s] := by
            have : shapeB t = true := h1'
            unfold shapeB at this
            simp only [h8] at this
            simp at this
            exact List.length_eq_one_iff.1 (by omega)
          obtain ⟨s0, hkl⟩ := hkl
          have hm : s0 ∈ t.kids := by rw [hkl]; exact List.mem_singleton.2 rfl
          have hsz0 := T.size_mem hm
          have hg : t.kids[0]? = some s0 := by rw [hkl]; rfl
          have e : nodeS t names g ses = nodeV s0 (names ++ [t.name]) g true := by unfold nodeS; rw [if_neg hn2, if_neg h9, if_pos h8, hkl]
          rw [e]
          have hu := hk s0 hm (names ++ [t.name]) g true (by rw [List.length_append, List.length_singleton]; omega)
          rw [T.data_eq, List.map_append] at hu
          simp only [List.map_cons, List.map_nil] at hu
          have hb1 : decide (names.length * 16 ≤ 140737488355328) = true := by simp; omega
          have hb2 : decide ((names.length + 1) * 16 ≤ 140737488355328) = true := by simp; omega
          have h8' := decide_eq_true h8
          have hss := sizes_str names
          refine runW_fn rfl rfl ?_
          unfold runFn c52
          rcases hsess with hse1 | ⟨hse1, hk1, hk2⟩
          · subst hse1
            simp only [go_sem, T.data_eq t, hsh, h1', hse, h9, h8', hg, T.data_eq s0, hss, hb1, hb2, hu]
          · subst hse1
            simp only [go_sem, T.data_eq t, hsh, h1', hse, hk1, hk2, h9, h8', hg, T.data_eq s0, hss, hb1, hb2, hu]
        · have e : nodeS t names g ses = nodeL names (decide (5 < t.kind)) t.kids 0 := by unfold nodeS; rw [if_neg hn2, if_neg h9, if_neg h8]
          rw [e]
          obtain ⟨e, hl, hq⟩ := kids_loop t names hlen (fun s hm b => hk s hm names names.length b (by have := T.size_mem hm; omega))
          rcases hq.out with ⟨fr, ob, nx, rfl, h4⟩ | ⟨fr, ob, nx, rfl, h4⟩
          · rw [h4]
            refine runW_fn rfl rfl ?_
            unfold runFn c52
            rcases hsess with hse1 | ⟨hse1, hk1, hk2⟩
            · subst hse1
              simp only [go_sem, T.data_eq t, hsh, h1', hse, h9, h8]
              refine obind_mk (Eq.trans (by kernel_rfl) hl) ?_
              simp only [go_sem]
            · subst hse1
              simp only [go_sem, T.data_eq t, hsh, h1', hse, hk1, hk2, h9, h8]
              refine obind_mk (Eq.trans (by kernel_rfl) hl) ?_
              simp only [go_sem]
          · refine runW_fn rfl rfl ?_
            unfold runFn c52
            rcases hsess with hse1 | ⟨hse1, hk1, hk2⟩
            · subst hse1
              simp only [go_sem, T.data_eq t, hsh, h1', hse, h9, h8]
              refine obind_mk (Eq.trans (by kernel_rfl) hl) ?_
              simp only [go_sem, h4]
            · subst hse1
              simp only [go_sem, T.data_eq t, hsh, h1', hse, hk1, hk2, h9, h8]
              refine obind_mk (Eq.trans (by kernel_rfl) hl) ?_
              simp only [go_sem, h4]
theorem node_run (t : T) (names : List (List UInt8)) (g : Int) (ses : Bool) (hw : Wf t) (hs : names.length + t.size < 1000000000) :
    RW 52 [.d t.data, .d (.sl 1 (names.map .str)), .d (.int .i64 g), .d (.bool ses)] [] = some (.d (.int .i64 (nodeV t names g ses)), []) ∧ nodeV t names g ses = nodeS t names g ses :=
  ⟨resI_run (node_ex t names g ses hw hs), resI_of (node_ex t names g ses hw hs)⟩

/-- the error of a type -/
noncomputable def rightV (t : T) : Int := if 100 < dep t ∨ 10000 < t.size then 2 else nodeV t [] 0 false
theorem right_run (t : T) (hw : Wf t) (hs : t.size < 1000000) : RW 29 [.d t.data] [] = some (.d (.int .i64 (rightV t)), []) := by
  have h1 := depth_run t (by omega) hw
  have h2 := size_run t (by omega) hw
  have h3 := (node_run t [] 0 false hw (by rw [List.length_nil]; omega)).1
  rw [T.data_eq] at h1 h2 h3
  rw [List.map_nil] at h3
  refine runW_fn rfl rfl ?_
  unfold runFn c29 rightV
  by_cases hd : 100 < dep t
  · have hd' : decide (100 < (dep t : Int)) = true := by simp; omega
    rw [if_pos (.inl hd)]
    simp only [go_sem, T.data_eq t, h1, hd']
  · have hd' : decide (100 < (dep t : Int)) = false := by simp; omega
    by_cases hz : 10000 < t.size
    · have hz' : decide (10000 < (t.size : Int)) = true := by simp; omega
      rw [if_pos (.inr hz)]
      simp only [go_sem, T.data_eq t, h1, hd', h2, hz']
    · have hz' : decide (10000 < (t.size : Int)) = false := by simp; omega
      rw [if_neg (by omega)]
      simp only [go_sem, T.data_eq t, h1, hd', h2, hz', h3]

noncomputable def smallB (t : T) (m : Int) : Bool := fewB t m && (decide (rightV t = 0) && flatB t)
theorem small_run (t : T) (m : Int) (hw : Wf t) (h0 : 0 ≤ m) (h1 : m < 1000000) : RW 20 [.d t.data, .d (.int .i64 m)] [] = some (.d (.bool (smallB t m)), []) := by
  have hf := few_run t m hw h0 h1
  rw [T.data_eq] at hf
  refine runW_fn rfl rfl ?_
  unfold runFn c20 smallB
  by_cases hb : fewB t m = true
  · have hs : (t.size : Int) ≤ m := by
      unfold fewB at hb
      simp at hb; exact hb.1
    have hr := right_run t hw (by omega)
    have hfl := flat_run t hw (by omega)
    rw [T.data_eq] at hr hfl
    by_cases hz : rightV t = 0
    · simp only [go_sem, T.data_eq t, hf, hb, hr, decide_eq_true hz, hfl]
    · simp only [go_sem, T.data_eq t, hf, hb, hr, decide_eq_false hz, hfl]
  · have hb' : fewB t m = false := by cases h : fewB t m; rfl; exact absurd h hb
    simp only [go_sem, T.data_eq t, hf, hb']

/-- few types, all of which are right and small -/
def fwI (l : List T) (m : Int) (i : Nat) : St := ⟨[(0, .d (.sl 6 (l.map T.data))), (2, .d (.int .i64 m)), (7, .d (.int .i64 i))], [], 0, 0, false⟩
noncomputable def Few (l : List T) (n m : Int) : Prop := (l.length : Int) ≤ n ∧ ∀ t ∈ l, smallB t m = true
theorem fews_run (l : List T) (n m : Int) (hl : l.length < 1000000000) (hw : ∀ t ∈ l, Wf t) (h0 : 0 ≤ m) (h1 : m < 1000000) : ∃ b, RW 11 [.d (.sl 6 (l.map T.data)), .d (.int .i64 n), .d (.int .i64 m)] [] = some (.d (.bool b), []) ∧ (b = true ↔ Few l n m) := by
  by_cases hn : n < (l.length : Int)
  · refine ⟨false, runW_fn rfl rfl ?_, by unfold Few; simp; intro h; omega⟩
    unfold runFn c11
    simp only [go_sem, hn]
  · obtain ⟨e, h2, hq⟩ := loop_p (keep := [0, 2, 7]) (c := c11_l0) (I := fwI l m) (n := l.length) (P := fun i => ∀ t ∈ l.take i, smallB t m = true) (Q := QE (fun _ => ∀ t ∈ l, smallB t m = true) 0 (fun fr => fget fr 6 = .d (.bool false) ∧ ¬ ∀ t ∈ l, smallB t m = true)) (fun i hi hp => by
      have hi' : (i : Int) < l.length := by omega
      have hk : l[i]? = some l[i] := List.getElem?_eq_getElem hi
      have hm := List.getElem_mem hi
      have hu := small_run l[i] m (hw _ hm) h0 h1
      rw [T.data_eq] at hu
      cases hb : smallB l[i] m with
      | true =>
        rw [hb] at hu
        refine .inl ⟨?s, ?h1, ?h2, ?h3⟩
        case h1 =>
          unfold c11_l0 fwI
          simp only [go_sem, hi', hk, T.data_eq l[i], hu]
          rfl
        case h2 =>
          rw [wrap64 (by omega) (by omega)]
          kernel_rfl
        case h3 =>
          rw [List.take_succ_eq_append_getElem hi]
          intro t ht
          rcases List.mem_append.1 ht with ht | ht
          · exact hp t ht
          · rw [List.mem_singleton.1 ht]; exact hb
      | false =>
        rw [hb] at hu
        refine .inr ⟨?e1, ?h1, ?h2, ?h3⟩
        case h1 =>
          unfold c11_l0 fwI
          simp only [go_sem, hi', hk, T.data_eq l[i], hu]
          rfl
        case h2 => intro h; cases h
        case h3 => exact ⟨.inr ⟨rfl, rfl, fun h => by have := h _ hm; rw [hb] at this; cases this⟩, rfl, rfl⟩) (fun hp => by
      refine ⟨?e, ?h1, ?h2, ?h3⟩
      case h1 =>
        unfold c11_l0 fwI
        simp only [go_sem]
        rfl
      case h2 => intro h; cases h
      case h3 =>
        rw [List.take_length] at hp
        exact ⟨.inl ⟨rfl, hp⟩, rfl, rfl⟩) l.length 0 (by omega) (by simp)
    rcases hq.out with ⟨fr, ob, nx, rfl, h4⟩ | ⟨fr, ob, nx, rfl, h4, h5⟩
    · refine ⟨true, runW_fn rfl rfl ?_, by unfold Few; simp; exact ⟨by omega, h4⟩⟩
      unfold runFn c11
      simp only [go_sem, hn]
      refine obind_mk (Eq.trans (by kernel_rfl) h2) ?_
      simp only [go_sem]
    · refine ⟨false, runW_fn rfl rfl ?_, by unfold Few; simp; intro _; simpa using h5⟩
      unfold runFn c11
      simp only [go_sem, hn]
      refine obind_mk (Eq.trans (by kernel_rfl) h2) ?_
      simp only [go_sem, h4]
end Go.Proofs.YtijfioakpngdhaaDoor
