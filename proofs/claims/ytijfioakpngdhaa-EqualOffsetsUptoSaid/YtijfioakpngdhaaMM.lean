/- Texts in order: the reference's sorting; lists of texts and types compared. -/
import Derived.Test.YtijfioakpngdhaaMH
import Derived.Test.YtijfioakpngdhaaMG
namespace Go.Proofs.Ytijfioakpngdhaa
open Go.V
set_option maxRecDepth 100000
set_option linter.unusedSimpArgs false
set_option linter.unusedVariables false

theorem bl_irrefl : ∀ a : List UInt8, bytesLess a a = false
  | [] => rfl
  | x :: a => by
    show (decide (x < x) || (x == x && bytesLess a a)) = false
    rw [bl_irrefl a, Bool.and_false, Bool.or_false]
    exact decide_eq_false (by simp)
theorem bl_cons (x y : UInt8) (a b : List UInt8) : bytesLess (x :: a) (y :: b) = (decide (x < y) || (x == y && bytesLess a b)) := rfl
theorem bl_trans : ∀ {a b c : List UInt8}, bytesLess a b = true → bytesLess b c = true → bytesLess a c = true
  | _, [], _, h, _ => by simp [bytesLess] at h
  | _, _ :: _, [], _, h => by simp [bytesLess] at h
  | [], _ :: _, _ :: _, _, _ => rfl
  | x :: a, y :: b, z :: c, h1, h2 => by
    rw [bl_cons] at h1 h2 ⊢
    simp only [Bool.or_eq_true, Bool.and_eq_true, decide_eq_true_eq, beq_iff_eq] at h1 h2 ⊢
    rcases h1 with h1 | ⟨h1, h1'⟩
    · rcases h2 with h2 | ⟨h2, h2'⟩
      · exact .inl (UInt8.lt_trans h1 h2)
      · exact .inl (h2 ▸ h1)
    · rcases h2 with h2 | ⟨h2, h2'⟩
      · exact .inl (h1 ▸ h2)
      · exact .inr ⟨h1.trans h2, bl_trans h1' h2'⟩
theorem bl_total : ∀ {a b : List UInt8}, bytesLess a b = false → bytesLess b a = false → a = b
  | [], [], _, _ => rfl
  | [], _ :: _, h, _ => by simp [bytesLess] at h
  | _ :: _, [], _, h => by simp [bytesLess] at h
  | x :: a, y :: b, h1, h2 => by
    rw [bl_cons] at h1 h2
    simp only [Bool.or_eq_false_iff, decide_eq_false_iff_not, Bool.and_eq_false_iff] at h1 h2
    have e : x = y := by
      have q1 := h1.1
      have q2 := h2.1
      apply UInt8.toNat_inj.1
      rw [UInt8.lt_iff_toNat_lt] at q1 q2
      omega
    subst e
    have g1 := h1.2
    have g2 := h2.2
    simp only [beq_self_eq_true, Bool.true_eq_false, false_or] at g1 g2
    rw [bl_total g1 g2]
/-- not after -/
def leS (a b : List UInt8) : Prop := bytesLess b a = false
theorem leS_trans {a b c : List UInt8} (h1 : leS a b) (h2 : leS b c) : leS a c := by
  unfold leS at *
  cases h : bytesLess c a with
  | false => rfl
  | true =>
    cases g : bytesLess a b with
    | true => rw [bl_trans h g] at h2; cases h2
    | false => rw [bl_total g h1] at h; rw [h] at h2; cases h2
theorem leS_of_lt {a b : List UInt8} (h : bytesLess a b = true) : leS a b := by
  unfold leS
  cases g : bytesLess b a with
  | false => rfl
  | true => have := bl_trans h g; rw [bl_irrefl] at this; cases this
def Srt (c : List (List UInt8)) : Prop := ∀ (p q : Nat) (x y : List UInt8), p < q → c[p]? = some x → c[q]? = some y → leS x y
theorem srt_tail {x : List UInt8} {c : List (List UInt8)} (h : Srt (x :: c)) : Srt c ∧ ∀ y ∈ c, leS x y := by
  refine ⟨fun p q a b hpq h1 h2 => h (p + 1) (q + 1) a b (by omega) h1 h2, fun y hy => ?_⟩
  obtain ⟨q, hq⟩ := List.mem_iff_getElem?.1 hy
  exact h 0 (q + 1) x y (by omega) rfl hq
theorem srt_unique : ∀ {c d : List (List UInt8)}, List.Perm c d → Srt c → Srt d → c = d
  | [], d, hp, _, _ => (List.Perm.eq_nil hp.symm).symm
  | x :: c, [], hp, _, _ => (List.Perm.eq_nil hp)
  | x :: c, y :: d, hp, h1, h2 => by
    have a1 := srt_tail h1
    have a2 := srt_tail h2
    have e : x = y := by
      have m1 : y ∈ x :: c := hp.mem_iff.2 List.mem_cons_self
      have m2 : x ∈ y :: d := hp.mem_iff.1 List.mem_cons_self
      rcases List.mem_cons.1 m1 with m1 | m1
      · exact m1.symm
      · rcases List.mem_cons.1 m2 with m2 | m2
        · exact m2
        · exact bl_total (a2.2 x m2) (a1.2 y m1)
    subst e
    rw [srt_unique ((List.perm_cons x).1 hp) a1.1 a2.1]
theorem perm_set1 {α : Type} (a : α) : ∀ (t : List α) (k : Nat) (b : α), t[k]? = some b → List.Perm (b :: t.set k a) (a :: t)
  | [], _, _, h => by cases h
  | c :: t, 0, b, h => by
    injection h with h
    subst h
    exact List.Perm.swap a c t
  | c :: t, k + 1, b, h => by
    have := perm_set1 a t k b h
    refine (List.Perm.swap c b _).trans ?_
    exact ((List.Perm.cons c this).trans (List.Perm.swap a c t))
theorem perm_swap {α : Type} : ∀ (l : List α) (i k : Nat) (a b : α), i < k → l[i]? = some a → l[k]? = some b → List.Perm ((l.set i b).set k a) l
  | [], _, _, _, _, _, h, _ => by cases h
  | x :: l, 0, 0, _, _, h, _, _ => by omega
  | x :: l, 0, k + 1, a, b, _, h1, h2 => by
    injection h1 with h1
    subst h1
    exact perm_set1 x l k b h2
  | x :: l, i + 1, 0, _, _, h, _, _ => by omega
  | x :: l, i + 1, k + 1, a, b, h, h1, h2 => List.Perm.cons x (perm_swap l i k a b (by omega) h1 h2)

/-- the first places are in order and not after the others -/
def Pre (c : List (List UInt8)) (i : Nat) : Prop := ∀ (p q : Nat) (x y : List UInt8), p < i → p < q → c[p]? = some x → c[q]? = some y → leS x y
def soI (c : List (List UInt8)) (i : Nat) : St := ⟨[(3, .own 0), (4, .d (.int .i64 i))], [(0, some (.arr 1 (c.map .str) true))], 1, 0, false⟩
def soJ (c : List (List UInt8)) (i k : Nat) : St := ⟨[(3, .own 0), (4, .d (.int .i64 i)), (5, .d (.int .i64 k))], [(0, some (.arr 1 (c.map .str) true))], 1, 0, false⟩
theorem so_inner (l : List (List UInt8)) (hl : l.length < 1000000000) (c : List (List UInt8)) (i : Nat) (hc : List.Perm c l) (hi : i < l.length) (hP : Pre c i) :
    ∃ e, LW [3, 4, 5] c103_l0 (soJ c i (i + 1)) = some e ∧ ∃ d fr nx, e = (.exit 2, ⟨fr, [(0, some (.arr 1 (d.map .str) true))], nx, 0, false⟩) ∧ fget fr 4 = .d (.int .i64 i) ∧ norm [3, 4] ⟨(4, .d (.int .i64 (i + 1 : Nat))) :: (14, .d (.int .i64 (i + 1 : Nat))) :: (13, .d (.int .i64 i)) :: fr, [(0, some (.arr 1 (d.map .str) true))], nx, 0, false⟩ = soI d (i + 1) ∧ List.Perm d l ∧ Pre d (i + 1) := by
  refine loop_inv (keep := [3, 4, 5]) (c := c103_l0) (Inv := fun k s => i < k ∧ ∃ d, s = soJ d i k ∧ List.Perm d l ∧ Pre d i ∧ ∀ (q : Nat) (x y : List UInt8), i < q → q < k → d[i]? = some x → d[q]? = some y → leS x y) (n := l.length)
    (Q := fun e => ∃ d fr nx, e = (.exit 2, ⟨fr, [(0, some (.arr 1 (d.map .str) true))], nx, 0, false⟩) ∧ fget fr 4 = .d (.int .i64 i) ∧ norm [3, 4] ⟨(4, .d (.int .i64 (i + 1 : Nat))) :: (14, .d (.int .i64 (i + 1 : Nat))) :: (13, .d (.int .i64 i)) :: fr, [(0, some (.arr 1 (d.map .str) true))], nx, 0, false⟩ = soI d (i + 1) ∧ List.Perm d l ∧ Pre d (i + 1)) (fun k s hk hI => ?_) (fun s hI => ?_) (l.length - (i + 1)) (i + 1) _ (by omega) ⟨by omega, c, rfl, hc, hP, fun q x y h1 h2 => by omega⟩
  · obtain ⟨hki, d, rfl, hd, hPd, hm⟩ := hI
    have hlen := hd.length_eq
    · have hgi : d[i]? = some (d[i]'(by omega)) := List.getElem?_eq_getElem _
      have hgk : d[k]? = some (d[k]'(by omega)) := List.getElem?_eq_getElem _
      generalize d[i]'(by omega) = a at hgi
      generalize d[k]'(by omega) = b at hgk
      have d1 : decide ((k : Int) < (d.length : Int)) = true := decide_eq_true (by omega)
      have d2 : decide (i < d.length) = true := decide_eq_true (by omega)
      have d3 : decide (k < d.length) = true := decide_eq_true (by omega)
      have w5 : IntKind.wrap .i64 ((k : Int) + 1) = ((k + 1 : Nat) : Int) := by rw [wrap64 (by omega) (by omega)]; omega
      cases hb : bytesLess b a with
      | true =>
        have hset : (d.map V.Data.str).set i (.str b) = (d.set i b).map .str := List.map_set.symm
        have hset2 : ((d.set i b).map V.Data.str).set k (.str a) = ((d.set i b).set k a).map .str := List.map_set.symm
        have hgk2 : (d.set i b)[k]? = some b := by rw [List.getElem?_set_ne (by omega)]; exact hgk
        refine .inl ⟨?s1, ?g1, by omega, (d.set i b).set k a, ?g2, (perm_swap d i k a b hki hgi hgk).trans hd, ?g3, ?g4⟩
        case g1 =>
          unfold c103_l0 soJ
          simp only [go_sem, d1, d2, d3, hgi, hgk, hb, hset, hset2, hgk2, List.length_set, w5]
          rfl
        case g2 =>
          unfold soJ
          show _ = _
          kernel_rfl
        case g3 =>
          intro p q x y hp hpq hx hy
          have hx' : d[p]? = some x := by
            rw [List.getElem?_set_ne (by omega), List.getElem?_set_ne (by omega)] at hx; exact hx
          by_cases e1 : q = k
          · rw [e1, List.getElem?_set_self (by rw [List.length_set]; omega)] at hy
            injection hy with hy
            subst hy
            exact hPd p i x a hp (by omega) hx' hgi
          · rw [List.getElem?_set_ne (by omega)] at hy
            by_cases e2 : q = i
            · rw [e2, List.getElem?_set_self (by omega)] at hy
              injection hy with hy
              subst hy
              exact hPd p k x b hp (by omega) hx' hgk
            · rw [List.getElem?_set_ne (by omega)] at hy
              exact hPd p q x y hp hpq hx' hy
        case g4 =>
          intro q x y h1 h2 hx hy
          rw [List.getElem?_set_ne (by omega), List.getElem?_set_self (by omega)] at hx
          injection hx with hx
          subst hx
          by_cases e1 : q = k
          · rw [e1, List.getElem?_set_self (by rw [List.length_set]; omega)] at hy
            injection hy with hy
            subst hy
            exact leS_of_lt hb
          · rw [List.getElem?_set_ne (by omega), List.getElem?_set_ne (by omega)] at hy
            exact leS_trans (leS_of_lt hb) (hm q a y h1 (by omega) hgi hy)
      | false =>
        refine .inl ⟨?s2, ?g1, by omega, d, ?g2, hd, hPd, ?g4⟩
        case g1 =>
          unfold c103_l0 soJ
          simp only [go_sem, d1, d2, d3, hgi, hgk, hb, w5]
          rfl
        case g2 =>
          unfold soJ
          show _ = _
          kernel_rfl
        case g4 =>
          intro q x y h1 h2 hx hy
          by_cases e1 : q = k
          · rw [e1, hgk] at hy
            rw [hgi] at hx
            injection hx with hx
            injection hy with hy
            subst hx; subst hy
            exact hb
          · exact hm q x y h1 (by omega) hx hy
  · obtain ⟨_, d, rfl, hd, hPd, hm⟩ := hI
    have hlen := hd.length_eq
    refine ⟨?e, ?g1, ?g2, d, ?fr, ?nx, ?g3, ?g4, ?g5, hd, ?g6⟩
    case g1 =>
      unfold c103_l0 soJ
      rw [← hlen]
      simp only [go_sem]
      rfl
    case g2 => intro h; cases h
    case g3 => rfl
    case g4 => rfl
    case g5 =>
      unfold soI
      show _ = _
      kernel_rfl
    case g6 =>
      intro p q x y hp hpq hx hy
      by_cases e : p = i
      · subst e
        exact hm q x y hpq (by have := (List.getElem?_eq_some_iff.1 hy).1; omega) hx hy
      · exact hPd p q x y (by omega) hpq hx hy
theorem so_outer (l : List (List UInt8)) (hl : l.length < 1000000000) : ∃ e, LW [3, 4] c103_l1 (soI l 0) = some e ∧ ∃ d fr nx, e = (.exit 0, ⟨fr, [(0, some (.arr 1 (d.map .str) true))], nx, 0, false⟩) ∧ fget fr 3 = .own 0 ∧ List.Perm d l ∧ Srt d := by
  refine loop_inv (keep := [3, 4]) (c := c103_l1) (Inv := fun i s => ∃ d, s = soI d i ∧ List.Perm d l ∧ Pre d i) (n := l.length)
    (Q := fun e => ∃ d fr nx, e = (.exit 0, ⟨fr, [(0, some (.arr 1 (d.map .str) true))], nx, 0, false⟩) ∧ fget fr 3 = .own 0 ∧ List.Perm d l ∧ Srt d) (fun i s hi hI => ?_) (fun s hI => ?_) l.length 0 _ (by omega) ⟨l, rfl, List.Perm.refl _, fun p q x y h => by omega⟩
  · obtain ⟨d, rfl, hd, hP⟩ := hI
    have hlen := hd.length_eq
    obtain ⟨e, hL, d', fr, nx, rfl, h4, h3, hd', hP'⟩ := so_inner l hl d i hd hi hP
    have d1 : decide ((i : Int) < (d.length : Int)) = true := decide_eq_true (by omega)
    have w5 : IntKind.wrap .i64 ((i : Int) + 1) = ((i + 1 : Nat) : Int) := by rw [wrap64 (by omega) (by omega)]; omega
    refine .inl ⟨?s1, ?g1, d', ?g2, hd', hP'⟩
    case g1 =>
      unfold c103_l1 soI
      simp only [go_sem, d1, w5]
      refine obind_mk (Eq.trans (by kernel_rfl) hL) ?_
      simp only [go_sem, h4, w5]
      rfl
    case g2 =>
      exact h3
  · obtain ⟨d, rfl, hd, hP⟩ := hI
    have hlen := hd.length_eq
    refine ⟨?e, ?g1, ?g2, d, ?fr, ?nx, ?g3, ?g4, hd, ?g6⟩
    case g1 =>
      unfold c103_l1 soI
      rw [← hlen]
      simp only [go_sem]
      rfl
    case g2 => intro h; cases h
    case g3 => rfl
    case g4 => rfl
    case g6 => exact fun p q x y hpq hx hy => hP p q x y (by have := (List.getElem?_eq_some_iff.1 hx).1; omega) hpq hx hy
/-- the reference's sorting: in order, and of the same texts -/
theorem sorted_ex (l : List (List UInt8)) (hl : l.length < 1000000000) : ∃ d, RW 103 [.d (.sl 1 (l.map .str))] [] = some (.own 0, [(0, some (.arr 1 (d.map .str) true))]) ∧ List.Perm d l ∧ Srt d := by
  obtain ⟨e, hL, d, fr, nx, rfl, h3, hd, hS⟩ := so_outer l hl
  have z0 := sizes_str l
  have hb : decide (l.length * 16 ≤ 140737488355328) = true := decide_eq_true (by omega)
  refine ⟨d, runW_fn rfl rfl ?_, hd, hS⟩
  unfold runFn c103
  simp only [go_sem, z0, hb]
  refine obind_mk (Eq.trans (by kernel_rfl) hL) ?_
  simp only [go_sem, h3]
  show _ = _
  kernel_rfl
open Classical in
noncomputable def sortE (l : List (List UInt8)) : List (List UInt8) := if h : l.length < 1000000000 then Classical.choose (sorted_ex l h) else l
theorem sort_run (l : List (List UInt8)) (hl : l.length < 1000000000) : RW 103 [.d (.sl 1 (l.map .str))] [] = some (.own 0, [(0, some (.arr 1 ((sortE l).map .str) true))]) := by
  unfold sortE; rw [dif_pos hl]; exact (Classical.choose_spec (sorted_ex l hl)).1
theorem sort_perm (l : List (List UInt8)) : List.Perm (sortE l) l := by
  unfold sortE
  split
  · rename_i hl; exact (Classical.choose_spec (sorted_ex l hl)).2.1
  · exact List.Perm.refl _
theorem sort_srt (l : List (List UInt8)) (hl : l.length < 1000000000) : Srt (sortE l) := by
  unfold sortE; rw [dif_pos hl]; exact (Classical.choose_spec (sorted_ex l hl)).2.2
theorem sort_eq_iff {l m : List (List UInt8)} (hl : l.length < 1000000000) (hm : m.length < 1000000000) : sortE l = sortE m ↔ List.Perm l m := by
  constructor
  · intro h
    exact (sort_perm l).symm.trans (h ▸ sort_perm m)
  · intro h
    exact srt_unique ((sort_perm l).trans (h.trans (sort_perm m).symm)) (sort_srt l hl) (sort_srt m hm)

/-! ### lists of texts -/
def txI (a b : List (List UInt8)) (i : Nat) : St := ⟨[(0, .d (.sl 1 (a.map .str))), (1, .d (.sl 1 (b.map .str))), (4, .d (.int .i64 i))], [], 0, 0, false⟩
def tyI (a b : List (List UInt8)) (i : Nat) : St := ⟨[(0, .d (.sl 1 (a.map .str))), (1, .d (.sl 1 (b.map .str))), (5, .d (.int .i64 i))], [], 0, 0, false⟩
theorem ext_get {α : Type} {a b : List α} (hl : a.length = b.length) (h : ∀ i, i < a.length → a[i]? = b[i]?) : a = b := by
  apply List.ext_getElem?
  intro i
  by_cases hi : i < a.length
  · exact h i hi
  · rw [List.getElem?_eq_none (by omega), List.getElem?_eq_none (by omega)]
theorem texts2_run (a b : List (List UInt8)) (ha : a.length < 1000000000) : RW 90 [.d (.sl 1 (a.map .str)), .d (.sl 1 (b.map .str))] [] = some (.d (.bool (decide (a = b))), []) := by
  by_cases hl : a.length = b.length
  · have dl := decide_eq_true hl
    obtain ⟨e, h2, hq⟩ := loop_p (keep := [0, 1, 5]) (c := c90_l0) (I := tyI a b) (n := a.length) (P := fun i => ∀ j, j < i → a[j]? = b[j]?) (Q := QE (fun _ => a = b) 0 (fun fr => fget fr 4 = .d (.bool false) ∧ a ≠ b)) (fun i hi hp => by
      have hi' : decide ((i : Int) < (a.length : Int)) = true := decide_eq_true (by omega)
      have hk : a[i]? = some a[i] := List.getElem?_eq_getElem hi
      have hk2 : b[i]? = some (b[i]'(by omega)) := List.getElem?_eq_getElem _
      have w5 : IntKind.wrap .i64 ((i : Int) + 1) = ((i + 1 : Nat) : Int) := by rw [wrap64 (by omega) (by omega)]; omega
      generalize a[i] = x at hk
      generalize b[i]'(by omega) = y at hk2
      by_cases h : x = y
      · have hd := decide_eq_true h
        refine .inl ⟨?s1, ?g1, ?g2, ?g3⟩
        case g1 =>
          unfold c90_l0 tyI
          simp only [go_sem, hi', hk, hk2, hd, w5]
          rfl
        case g2 =>
          unfold tyI
          show _ = _
          kernel_rfl
        case g3 =>
          intro j hj
          by_cases e : j = i
          · rw [e, hk, hk2, h]
          · exact hp j (by omega)
      · have hd := decide_eq_false h
        refine .inr ⟨?e1, ?g4, ?g5, ?g6⟩
        case g4 =>
          unfold c90_l0 tyI
          simp only [go_sem, hi', hk, hk2, hd]
          rfl
        case g5 => intro h; cases h
        case g6 => exact ⟨.inr ⟨rfl, rfl, fun e => by rw [e, hk2] at hk; injection hk with hk; exact h hk.symm⟩, rfl, rfl⟩) (fun hp => by
      refine ⟨?e, ?g1, ?g2, ?g3⟩
      case g1 =>
        unfold c90_l0 tyI
        simp only [go_sem]
        rfl
      case g2 => intro h; cases h
      case g3 => exact ⟨.inl ⟨rfl, ext_get hl hp⟩, rfl, rfl⟩) a.length 0 (by omega) (fun j hj => by omega)
    refine runW_fn rfl rfl ?_
    unfold runFn c90
    simp only [go_sem, dl]
    rcases hq.out with ⟨fr, ob, nx, rfl, h4⟩ | ⟨fr, ob, nx, rfl, h4, h5⟩
    · refine obind_mk (Eq.trans (by kernel_rfl) h2) ?_
      rw [decide_eq_true h4]
      simp only [go_sem]
    · refine obind_mk (Eq.trans (by kernel_rfl) h2) ?_
      rw [decide_eq_false h5]
      simp only [go_sem, h4]
  · have dl := decide_eq_false hl
    have dn : decide (a = b) = false := decide_eq_false fun h => hl (by rw [h])
    rw [dn]
    refine runW_fn rfl rfl ?_
    unfold runFn c90
    simp only [go_sem, dl]
theorem texts3_run (a b : List (List UInt8)) (ha : a.length < 1000000000) : RW 84 [.d (.sl 1 (a.map .str)), .d (.sl 1 (b.map .str))] [] = some (.d (.bool (decide (a = b))), []) := by
  by_cases hl : a.length = b.length
  · have dl := decide_eq_true hl
    obtain ⟨e, h2, hq⟩ := loop_p (keep := [0, 1, 5]) (c := c84_l0) (I := tyI a b) (n := a.length) (P := fun i => ∀ j, j < i → a[j]? = b[j]?) (Q := QE (fun _ => a = b) 0 (fun fr => fget fr 4 = .d (.bool false) ∧ a ≠ b)) (fun i hi hp => by
      have hi' : decide ((i : Int) < (a.length : Int)) = true := decide_eq_true (by omega)
      have hk : a[i]? = some a[i] := List.getElem?_eq_getElem hi
      have hk2 : b[i]? = some (b[i]'(by omega)) := List.getElem?_eq_getElem _
      have w5 : IntKind.wrap .i64 ((i : Int) + 1) = ((i + 1 : Nat) : Int) := by rw [wrap64 (by omega) (by omega)]; omega
      generalize a[i] = x at hk
      generalize b[i]'(by omega) = y at hk2
      by_cases h : x = y
      · have hd := decide_eq_true h
        refine .inl ⟨?s1, ?g1, ?g2, ?g3⟩
        case g1 =>
          unfold c84_l0 tyI
          simp only [go_sem, hi', hk, hk2, hd, w5]
          rfl
        case g2 =>
          unfold tyI
          show _ = _
          kernel_rfl
        case g3 =>
          intro j hj
          by_cases e : j = i
          · rw [e, hk, hk2, h]
          · exact hp j (by omega)
      · have hd := decide_eq_false h
        refine .inr ⟨?e1, ?g4, ?g5, ?g6⟩
        case g4 =>
          unfold c84_l0 tyI
          simp only [go_sem, hi', hk, hk2, hd]
          rfl
        case g5 => intro h; cases h
        case g6 => exact ⟨.inr ⟨rfl, rfl, fun e => by rw [e, hk2] at hk; injection hk with hk; exact h hk.symm⟩, rfl, rfl⟩) (fun hp => by
      refine ⟨?e, ?g1, ?g2, ?g3⟩
      case g1 =>
        unfold c84_l0 tyI
        simp only [go_sem]
        rfl
      case g2 => intro h; cases h
      case g3 => exact ⟨.inl ⟨rfl, ext_get hl hp⟩, rfl, rfl⟩) a.length 0 (by omega) (fun j hj => by omega)
    refine runW_fn rfl rfl ?_
    unfold runFn c84
    simp only [go_sem, dl]
    rcases hq.out with ⟨fr, ob, nx, rfl, h4⟩ | ⟨fr, ob, nx, rfl, h4, h5⟩
    · refine obind_mk (Eq.trans (by kernel_rfl) h2) ?_
      rw [decide_eq_true h4]
      simp only [go_sem]
    · refine obind_mk (Eq.trans (by kernel_rfl) h2) ?_
      rw [decide_eq_false h5]
      simp only [go_sem, h4]
  · have dl := decide_eq_false hl
    have dn : decide (a = b) = false := decide_eq_false fun h => hl (by rw [h])
    rw [dn]
    refine runW_fn rfl rfl ?_
    unfold runFn c84
    simp only [go_sem, dl]
end Go.Proofs.Ytijfioakpngdhaa

namespace Go.Proofs.Ytijfioakpngdhaa
open Go.V
set_option maxRecDepth 100000
set_option linter.unusedSimpArgs false
set_option linter.unusedVariables false

noncomputable def tEq (a b : T) : Bool := @decide (a = b) (Classical.propDecidable _)
theorem tEq_iff {a b : T} : tEq a b = true ↔ a = b := by unfold tEq; exact @decide_eq_true_iff _ (Classical.propDecidable _)
theorem tEq_false {a b : T} (h : a ≠ b) : tEq a b = false := by
  cases hb : tEq a b with
  | false => rfl
  | true => exact absurd (tEq_iff.1 hb) h
theorem T.ext {a b : T} (h1 : a.kind = b.kind) (h2 : a.prio = b.prio) (h3 : a.name = b.name) (h4 : a.shift = b.shift) (h5 : a.labels = b.labels) (h6 : a.kids = b.kids) : a = b := by
  rw [← T.eta a, ← T.eta b, h1, h2, h3, h4, h5, h6]
def saTI (a b : T) (i : Nat) : St := ⟨[(2, .ptr 0 0), (3, .ptr 1 0), (5, .d (.int .i64 i))], [(0, some (bxT a)), (1, some (bxT b))], 2, 0, false⟩
theorem same_runT (a : T) : ∀ b : T, Wf a → RW 49 [.d a.data, .d b.data] [] = some (.d (.bool (tEq a b)), []) := by
  induction a using T.ind with
  | h a ih =>
  intro b hw
  have hlen := hw.len
  have htx := texts2_run a.labels b.labels hw.labLen
  have fail : a ≠ b → RW 49 [.d a.data, .d b.data] [] = some (.d (.bool false), []) → RW 49 [.d a.data, .d b.data] [] = some (.d (.bool (tEq a b)), []) := fun h1 h2 => by rw [tEq_false h1]; exact h2
  have da := T.data_eq a
  have db := T.data_eq b
  by_cases c1 : a.kind = b.kind
  · by_cases c2 : a.prio = b.prio
    · by_cases c3 : a.name = b.name
      · by_cases c4 : a.shift = b.shift
        · by_cases c5 : a.labels = b.labels
          · by_cases c6 : a.kids.length = b.kids.length
            · have e1 := decide_eq_true c1
              have e2 := decide_eq_true c2
              have e3 := decide_eq_true c3
              have e4 := decide_eq_true c4
              have e6 := decide_eq_true c6
              rw [decide_eq_true c5] at htx
              obtain ⟨e, h2, hq⟩ := loop_p (keep := [2, 3, 5]) (c := c49_l0) (I := saTI a b) (n := a.kids.length) (P := fun i => ∀ j, j < i → a.kids[j]? = b.kids[j]?) (Q := QE (fun _ => a = b) 0 (fun fr => fget fr 4 = .d (.bool false) ∧ a ≠ b)) (fun i hi hp => by
                have hi' : decide ((i : Int) < (a.kids.length : Int)) = true := decide_eq_true (by omega)
                have hk : a.kids[i]? = some a.kids[i] := List.getElem?_eq_getElem hi
                have hk2 : b.kids[i]? = some (b.kids[i]'(by omega)) := List.getElem?_eq_getElem _
                have w5 : IntKind.wrap .i64 ((i : Int) + 1) = ((i + 1 : Nat) : Int) := by rw [wrap64 (by omega) (by omega)]; omega
                have hu := ih _ (List.mem_of_getElem? hk) (b.kids[i]'(by omega)) (hw.kid (List.mem_of_getElem? hk))
                generalize a.kids[i] = x at hk hu
                generalize b.kids[i]'(by omega) = y at hk2 hu
                rw [T.data_eq, T.data_eq] at hu
                by_cases h : x = y
                · rw [tEq_iff.2 h] at hu
                  refine .inl ⟨?s1, ?g1, ?g2, ?g3⟩
                  case g1 =>
                    unfold c49_l0 saTI bxT
                    simp only [go_sem, hi', hk, hk2, T.data_eq x, T.data_eq y, hu, w5]
                    rfl
                  case g2 =>
                    unfold saTI bxT
                    show _ = _
                    kernel_rfl
                  case g3 =>
                    intro j hj
                    by_cases e : j = i
                    · rw [e, hk, hk2, h]
                    · exact hp j (by omega)
                · rw [tEq_false h] at hu
                  refine .inr ⟨?e1, ?g4, ?g5, ?g6⟩
                  case g4 =>
                    unfold c49_l0 saTI bxT
                    simp only [go_sem, hi', hk, hk2, T.data_eq x, T.data_eq y, hu]
                    rfl
                  case g5 => intro h; cases h
                  case g6 => exact ⟨.inr ⟨rfl, rfl, fun e => by rw [e, hk2] at hk; injection hk with hk; exact h hk.symm⟩, rfl, rfl⟩) (fun hp => by
                refine ⟨?e, ?g1, ?g2, ?g3⟩
                case g1 =>
                  unfold c49_l0 saTI bxT
                  simp only [go_sem]
                  rfl
                case g2 => intro h; cases h
                case g3 => exact ⟨.inl ⟨rfl, T.ext c1 c2 c3 c4 c5 (ext_get c6 hp)⟩, rfl, rfl⟩) a.kids.length 0 (by omega) (fun j hj => by omega)
              rw [da, db]
              refine runW_fn rfl rfl ?_
              unfold runFn c49
              simp only [go_sem, e1, e2, e3, e4, e6, htx]
              rcases hq.out with ⟨fr, ob, nx, rfl, h4⟩ | ⟨fr, ob, nx, rfl, h4, h5⟩
              · refine obind_mk (Eq.trans (by kernel_rfl) h2) ?_
                rw [tEq_iff.2 h4]
                simp only [go_sem]
              · refine obind_mk (Eq.trans (by kernel_rfl) h2) ?_
                rw [tEq_false h5]
                simp only [go_sem, h4]
            · refine fail (fun h => c6 (by rw [h])) ?_
              have e1 := decide_eq_true c1
              have e2 := decide_eq_true c2
              have e3 := decide_eq_true c3
              have e4 := decide_eq_true c4
              rw [decide_eq_true c5] at htx
              have e6 := decide_eq_false c6
              rw [da, db]
              refine runW_fn rfl rfl ?_
              unfold runFn c49
              simp only [go_sem, e1, e2, e3, e4, htx, e6]
          · refine fail (fun h => c5 (by rw [h])) ?_
            have e1 := decide_eq_true c1
            have e2 := decide_eq_true c2
            have e3 := decide_eq_true c3
            have e4 := decide_eq_true c4
            rw [decide_eq_false c5] at htx
            rw [da, db]
            refine runW_fn rfl rfl ?_
            unfold runFn c49
            simp only [go_sem, e1, e2, e3, e4, htx]
        · refine fail (fun h => c4 (by rw [h])) ?_
          have e1 := decide_eq_true c1
          have e2 := decide_eq_true c2
          have e3 := decide_eq_true c3
          have e4 := decide_eq_false c4
          rw [da, db]
          refine runW_fn rfl rfl ?_
          unfold runFn c49
          simp only [go_sem, e1, e2, e3, e4]
      · refine fail (fun h => c3 (by rw [h])) ?_
        have e1 := decide_eq_true c1
        have e2 := decide_eq_true c2
        have e3 := decide_eq_false c3
        rw [da, db]
        refine runW_fn rfl rfl ?_
        unfold runFn c49
        simp only [go_sem, e1, e2, e3]
    · refine fail (fun h => c2 (by rw [h])) ?_
      have e1 := decide_eq_true c1
      have e2 := decide_eq_false c2
      rw [da, db]
      refine runW_fn rfl rfl ?_
      unfold runFn c49
      simp only [go_sem, e1, e2]
  · refine fail (fun h => c1 (by rw [h])) ?_
    have e1 := decide_eq_false c1
    rw [da, db]
    refine runW_fn rfl rfl ?_
    unfold runFn c49
    simp only [go_sem, e1]
end Go.Proofs.Ytijfioakpngdhaa

namespace Go.Proofs.Ytijfioakpngdhaa
open Go.V
set_option maxRecDepth 100000
set_option linter.unusedSimpArgs false
set_option linter.unusedVariables false

def prioU (u : T) : Int := if actB u.kind = true then u.prio else 0
theorem prioR_run {t : T} (hw : Wf t) (h : Unf t) : RW 75 [.d t.data] [] = some (.tup [.d (.int .i64 (prioU (unfoldE t))), .d (.bool (actB (unfoldE t).kind))], []) := by
  have hu := unfold_run hw h
  generalize unfoldE t = u at hu ⊢
  unfold tyV at hu
  rw [T.data_eq t] at hu ⊢
  refine runW_fn rfl rfl ?_
  unfold runFn c75 prioU actB
  cases d1 : decide (4 ≤ u.kind) with
  | true =>
    cases d2 : decide (u.kind ≤ 7) with
    | true =>
      simp only [go_sem, hu, d1, d2]
      show _ = _
      kernel_rfl
    | false =>
      simp only [go_sem, hu, d1, d2]
      show _ = _
      kernel_rfl
  | false =>
    simp only [go_sem, hu, d1]
    show _ = _
    kernel_rfl
theorem raise_wrap (k : Int) (t : T) : raiseE (IntKind.wrap .i64 k) t = raiseE k t := by
  induction t using T.ind with
  | h t ih =>
  rw [raise_eq, raise_eq k]
  congr 1
  · split
    · rw [Int.add_comm, wrap_wrap, Int.add_comm]
    · rfl
  · exact List.map_congr_left fun s hs => ih s hs
def tcD (t : T) : List V.Data := [.int .i64 t.kind, .int .i64 t.prio, .str t.name, .int .i64 t.shift, .sl 1 (t.labels.map .str), .sl 6 (t.kids.map T.data)]
def prD (p : T × T) : V.Data := .agg [.int .i64 p.1.kind, .int .i64 p.1.prio, .str p.1.name, .int .i64 p.1.shift, .sl 1 (p.1.labels.map .str), .sl 6 (p.1.kids.map T.data), .int .i64 p.2.kind, .int .i64 p.2.prio, .str p.2.name, .int .i64 p.2.shift, .sl 1 (p.2.labels.map .str), .sl 6 (p.2.kids.map T.data)]
theorem sizes_pr : ∀ l : List (T × T), sizesOk 12 (l.map prD) = true
  | [] => rfl
  | p :: l => by
    show (Nat.beq 12 12 && sizesOk 12 (l.map prD)) = true
    rw [sizes_pr l]; rfl
/-- two unfolded types, lowered by the first one's priority -/
def lowE (x y : T) : T × T := (raiseE (-prioU x) x, raiseE (-prioU x) y)
def prV (p : T × T) : AV × Objs := (.agg [.d (.int .i64 p.1.kind), .d (.int .i64 p.1.prio), .d (.str p.1.name), .d (.int .i64 p.1.shift), .own 0, .own 1, .d (.int .i64 p.2.kind), .d (.int .i64 p.2.prio), .d (.str p.2.name), .d (.int .i64 p.2.shift), .own 2, .own 3],
  [(0, some (.arr 1 (p.1.labels.map .str) true)), (1, some (.arr 6 (p.1.kids.map T.data) true)), (2, some (.arr 1 (p.2.labels.map .str) true)), (3, some (.arr 6 (p.2.kids.map T.data) true))])
theorem lower_run {x y : T} (hx : Wf x) (hy : Wf y) (h : x.kind ≠ 8) : RW 104 [.d x.data, .d y.data] [] = some (prV (lowE x y)) := by
  have hs := Unf.stay h
  have hp := prioR_run hx hs.1
  rw [hs.2] at hp
  have h1 := raise_run x (IntKind.wrap .i64 (0 - prioU x)) hx
  have h2 := raise_run y (IntKind.wrap .i64 (0 - prioU x)) hy
  rw [raise_wrap] at h1 h2
  rw [show raiseE (0 - prioU x) x = raiseE (-prioU x) x by rw [Int.zero_sub]] at h1
  rw [show raiseE (0 - prioU x) y = raiseE (-prioU x) y by rw [Int.zero_sub]] at h2
  unfold lowE prV
  generalize raiseE (-prioU x) x = a at h1 ⊢
  generalize raiseE (-prioU x) y = b at h2 ⊢
  generalize prioU x = p at hp h1 h2
  unfold tyV at h1 h2
  rw [T.data_eq] at hp h1 h2
  rw [T.data_eq, T.data_eq]
  refine runW_fn rfl rfl ?_
  unfold runFn c104
  simp only [go_sem, hp, h1, h2]
  show _ = _
  kernel_rfl
noncomputable def memP (p : T × T) (L : List (T × T)) : Bool := @decide (p ∈ L) (Classical.propDecidable _)
theorem memP_iff {p : T × T} {L : List (T × T)} : memP p L = true ↔ p ∈ L := by unfold memP; exact @decide_eq_true_iff _ (Classical.propDecidable _)
theorem memP_false {p : T × T} {L : List (T × T)} (h : p ∉ L) : memP p L = false := by
  cases hb : memP p L with
  | false => rfl
  | true => exact absurd (memP_iff.1 hb) h
def seI (L : List (T × T)) (p : T × T) (i : Nat) : St := ⟨[(0, .d (.sl 12 (L.map prD))), (3, .ptr 0 0), (5, .d (.int .i64 i))], [(0, some (.box [.d (.int .i64 p.1.kind), .d (.int .i64 p.1.prio), .d (.str p.1.name), .d (.int .i64 p.1.shift), .d (.sl 1 (p.1.labels.map .str)), .d (.sl 6 (p.1.kids.map T.data)), .d (.int .i64 p.2.kind), .d (.int .i64 p.2.prio), .d (.str p.2.name), .d (.int .i64 p.2.shift), .d (.sl 1 (p.2.labels.map .str)), .d (.sl 6 (p.2.kids.map T.data))]))], 1, 0, false⟩
theorem seen_run (L : List (T × T)) (p : T × T) (hL : L.length < 1000000000) (hw : ∀ q ∈ L, Wf q.1 ∧ Wf q.2) : RW 105 [.d (.sl 12 (L.map prD)), .d (prD p)] [] = some (.d (.bool (memP p L)), []) := by
  obtain ⟨e, h2, hq⟩ := loop_p (keep := [0, 3, 5]) (c := c105_l0) (I := seI L p) (n := L.length) (P := fun i => p ∉ L.take i) (Q := QE (fun _ => p ∉ L) 0 (fun fr => fget fr 4 = .d (.bool true) ∧ p ∈ L)) (fun i hi hp => by
    have hi' : decide ((i : Int) < (L.length : Int)) = true := decide_eq_true (by omega)
    have hk : L[i]? = some L[i] := List.getElem?_eq_getElem hi
    have w5 : IntKind.wrap .i64 ((i : Int) + 1) = ((i + 1 : Nat) : Int) := by rw [wrap64 (by omega) (by omega)]; omega
    have hww := hw _ (List.mem_of_getElem? hk)
    have hne : L[i] ≠ p → p ∉ L.take (i + 1) := fun hne h => by
      rw [List.take_succ_eq_append_getElem hi] at h
      rcases List.mem_append.1 h with h | h
      · exact hp h
      · exact hne (List.mem_singleton.1 h).symm
    have hmm := List.mem_of_getElem? hk
    generalize L[i] = q at hk hww hne hmm
    have s1 := same_runT q.1 p.1 hww.1
    have s2 := same_runT q.2 p.2 hww.2
    rw [T.data_eq, T.data_eq] at s1 s2
    by_cases c1 : q.1 = p.1
    · rw [tEq_iff.2 c1] at s1
      by_cases c2 : q.2 = p.2
      · rw [tEq_iff.2 c2] at s2
        have e : q = p := Prod.ext c1 c2
        refine .inr ⟨?e1, ?g4, ?g5, ?g6⟩
        case g4 =>
          unfold c105_l0 seI
          simp only [go_sem, hi', hk, prD, s1, s2]
          rfl
        case g5 => intro h; cases h
        case g6 => exact ⟨.inr ⟨rfl, rfl, e ▸ hmm⟩, rfl, rfl⟩
      · rw [tEq_false c2] at s2
        refine .inl ⟨?s1, ?g1, ?g2, hne fun h => c2 (by rw [h])⟩
        case g1 =>
          unfold c105_l0 seI
          simp only [go_sem, hi', hk, prD, s1, s2, w5]
          rfl
        case g2 =>
          unfold seI
          show _ = _
          kernel_rfl
    · rw [tEq_false c1] at s1
      refine .inl ⟨?s2, ?g7, ?g8, hne fun h => c1 (by rw [h])⟩
      case g7 =>
        unfold c105_l0 seI
        simp only [go_sem, hi', hk, prD, s1, w5]
        rfl
      case g8 =>
        unfold seI
        show _ = _
        kernel_rfl) (fun hp => by
    refine ⟨?e, ?g1, ?g2, ?g3⟩
    case g1 =>
      unfold c105_l0 seI
      simp only [go_sem]
      rfl
    case g2 => intro h; cases h
    case g3 => exact ⟨.inl ⟨rfl, by rw [List.take_length] at hp; exact hp⟩, rfl, rfl⟩) L.length 0 (by omega) (by rw [List.take_zero]; exact List.not_mem_nil)
  refine runW_fn rfl rfl ?_
  unfold runFn c105 prD
  simp only [go_sem]
  rcases hq.out with ⟨fr, ob, nx, rfl, h4⟩ | ⟨fr, ob, nx, rfl, h4, h5⟩
  · refine obind_mk (Eq.trans (by kernel_rfl) h2) ?_
    rw [memP_false h4]
    simp only [go_sem]
  · refine obind_mk (Eq.trans (by kernel_rfl) h2) ?_
    rw [memP_iff.2 h5]
    simp only [go_sem, h4]
def lbI (u : T) (s : List UInt8) (i : Nat) : St := ⟨[(1, .d (.str s)), (4, .ptr 0 0), (6, .ptr 3 0), (7, .d (.int .i64 i))], [(0, some (.box [.d (.int .i64 0), .d (.int .i64 0), .d (.str []), .d (.int .i64 0), .own 1, .own 2])), (1, some (.arr 1 [] true)), (2, some (.arr 6 [] true)),
  (3, some (.box [.d (.int .i64 u.kind), .d (.int .i64 u.prio), .d (.str u.name), .d (.int .i64 u.shift), .own 4, .own 5])), (4, some (.arr 1 (u.labels.map .str) true)), (5, some (.arr 6 (u.kids.map T.data) true))], 6, 0, false⟩
theorem label_run {t : T} (hw : Wf t) (h : Unf t) (s : List UInt8) (k : Nat) (c : T) (hk : idx? (unfoldE t).labels s = some k) (hc : (unfoldE t).kids[k]? = some c) : RW 106 [.d t.data, .d (.str s)] [] = some (.tup [.d c.data, .d (.bool true)], []) := by
  have hu := unfold_run hw h
  have hwu := unfold_wf hw
  generalize unfoldE t = u at hu hwu hk hc
  have hlab := hwu.labLen
  have hkl := (List.getElem?_eq_some_iff.1 (idx_get hk)).1
  obtain ⟨e, h2, hq⟩ := loop_p (keep := [1, 4, 6, 7]) (c := c106_l0) (I := lbI u s) (n := u.labels.length) (P := fun i => i ≤ k ∧ idx? (u.labels.drop i) s = some (k - i))
    (Q := fun e => ∃ fr ob nx, e = (.ret, ⟨fr, ob, nx, 0, false⟩) ∧ fget fr 5 = .d (.bool true) ∧ loadR true 6 ob (fget fr 4) = some ⟨.d c.data, [], [0]⟩ ∧ fin1 ⟨fr, ob, nx, 0, false⟩ [.d c.data, .d (.bool true)] = some (.tup [.d c.data, .d (.bool true)], [])) (fun i hi hp => by
    obtain ⟨hp1, hp2⟩ := hp
    have hi' : decide ((i : Int) < (u.labels.length : Int)) = true := decide_eq_true (by omega)
    have dl : decide (i < u.labels.length) = true := decide_eq_true hi
    have hki : u.labels[i]? = some u.labels[i] := List.getElem?_eq_getElem hi
    have w5 : IntKind.wrap .i64 ((i : Int) + 1) = ((i + 1 : Nat) : Int) := by rw [wrap64 (by omega) (by omega)]; omega
    generalize u.labels[i] = lb at hki
    rw [idx_drop u.labels s i lb hki] at hp2
    by_cases e : lb = s
    · have hd := decide_eq_true e
      rw [if_pos e] at hp2
      injection hp2 with hp2
      have e2 : i = k := by omega
      subst e2
      have dk : decide (i < u.kids.length) = true := decide_eq_true (List.getElem?_eq_some_iff.1 hc).1
      refine .inr ⟨?e1, ?g4, ?g5, ?fr, ?ob, ?nx, ?g6, ?g7, ?g8, ?g9⟩
      case g4 =>
        unfold c106_l0 lbI
        simp only [go_sem, hi', dl, hki, hd, hc, dk, T.data_eq c]
        rfl
      case g5 => intro h; cases h
      case g6 => rfl
      case g7 => rfl
      case g8 =>
        rw [T.data_eq c]
        rfl
      case g9 =>
        show _ = _
        kernel_rfl
    · have hd := decide_eq_false e
      rw [if_neg e] at hp2
      have hki2 : i ≠ k := by
        intro h
        rw [h, Nat.sub_self] at hp2
        cases hh : idx? (u.labels.drop (k + 1)) s <;> rw [hh] at hp2 <;> simp at hp2
      refine .inl ⟨?s1, ?g1, ?g2, by omega, ?g3⟩
      case g1 =>
        unfold c106_l0 lbI
        simp only [go_sem, hi', dl, hki, hd, w5]
        rfl
      case g2 =>
        unfold lbI
        show _ = _
        kernel_rfl
      case g3 =>
        cases hh : idx? (u.labels.drop (i + 1)) s with
        | none => rw [hh] at hp2; cases hp2
        | some j =>
          rw [hh] at hp2
          injection hp2 with hp2
          congr 1
          dsimp only at hp2
          omega) (fun hp => by omega) u.labels.length 0 (by omega) ⟨by omega, by rw [List.drop_zero]; exact hk⟩
  obtain ⟨fr, ob, nx, rfl, h5, h6, h7⟩ := hq
  unfold tyV at hu
  rw [T.data_eq t] at hu ⊢
  refine runW_fn rfl rfl ?_
  unfold runFn c106
  simp only [go_sem, hu]
  refine obind_mk (Eq.trans (by kernel_rfl) h2) ?_
  simp only [go_sem, h5, h6, h7]
end Go.Proofs.Ytijfioakpngdhaa
