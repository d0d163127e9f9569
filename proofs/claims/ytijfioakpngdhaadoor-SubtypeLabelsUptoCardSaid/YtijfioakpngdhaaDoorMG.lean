/- The walks: raised types. -/
import Derived.Test.YtijfioakpngdhaaDoorMF
namespace Go.Proofs.YtijfioakpngdhaaDoor
open Go.V
set_option maxRecDepth 100000
set_option linter.unusedSimpArgs false
set_option linter.unusedVariables false

mutual
def raiseE (k : Int) : T → T
  | .mk kd p n s ls ks => .mk kd (if 4 ≤ kd ∧ kd ≤ 7 then IntKind.wrap .i64 (p + k) else p) n s ls (raiseL k ks)
def raiseL (k : Int) : List T → List T
  | [] => []
  | t :: l => raiseE k t :: raiseL k l
end
theorem raiseL_eq (k : Int) (l : List T) : raiseL k l = l.map (raiseE k) := by
  induction l with
  | nil => rfl
  | cons t l ih => rw [raiseL, ih]; rfl
theorem raise_eq (k : Int) (t : T) : raiseE k t = .mk t.kind (if 4 ≤ t.kind ∧ t.kind ≤ 7 then IntKind.wrap .i64 (t.prio + k) else t.prio) t.name t.shift t.labels (t.kids.map (raiseE k)) := by
  cases t; rw [raiseE, raiseL_eq]; rfl
theorem raise_kind (k : Int) (t : T) : (raiseE k t).kind = t.kind := by rw [raise_eq]; rfl
theorem raise_prio (k : Int) (t : T) : (raiseE k t).prio = if 4 ≤ t.kind ∧ t.kind ≤ 7 then IntKind.wrap .i64 (t.prio + k) else t.prio := by rw [raise_eq]; rfl
theorem raise_name (k : Int) (t : T) : (raiseE k t).name = t.name := by rw [raise_eq]; rfl
theorem raise_shift (k : Int) (t : T) : (raiseE k t).shift = t.shift := by rw [raise_eq]; rfl
theorem raise_labels (k : Int) (t : T) : (raiseE k t).labels = t.labels := by rw [raise_eq]; rfl
theorem raise_kids (k : Int) (t : T) : (raiseE k t).kids = t.kids.map (raiseE k) := by rw [raise_eq]; rfl

/-- a type as a function's new value -/
def tyV (t : T) : AV × Objs := (.agg [.d (.int .i64 t.kind), .d (.int .i64 t.prio), .d (.str t.name), .d (.int .i64 t.shift), .own 0, .own 1], [(0, some (.arr 1 (t.labels.map .str) true)), (1, some (.arr 6 (t.kids.map T.data) true))])
def bxT (t : T) : AObj := .box [.d (.int .i64 t.kind), .d (.int .i64 t.prio), .d (.str t.name), .d (.int .i64 t.shift), .d (.sl 1 (t.labels.map .str)), .d (.sl 6 (t.kids.map T.data))]
theorem sizes_T : ∀ l : List T, sizesOk 6 (l.map T.data) = true
  | [] => rfl
  | t :: l => by
    rw [List.map_cons, T.data_eq]
    show (Nat.beq 6 6 && sizesOk 6 (l.map T.data)) = true
    rw [sizes_T l]; rfl

def rsI (t : T) (k p : Int) (i : Nat) : St := ⟨[(1, .d (.int .i64 k)), (2, .ptr 0 0), (4, .ptr 1 0), (5, .ptr 4 0), (6, .d (.int .i64 i))],
  [(0, some (bxT t)), (1, some (.box [.d (.int .i64 0), .d (.int .i64 0), .d (.str []), .d (.int .i64 0), .own 2, .own 3])), (2, some (.arr 1 [] true)), (3, some (.arr 6 [] true)),
   (4, some (.box [.d (.int .i64 t.kind), .d (.int .i64 p), .d (.str t.name), .d (.int .i64 t.shift), .own 5, .own 6])), (5, some (.arr 1 (t.labels.map .str) true)), (6, some (.arr 6 (((t.kids.take i).map (raiseE k)).map T.data) true))], 7, 0, false⟩
theorem rs_step (t : T) (k p : Int) (hw : Wf t) (ih : ∀ s ∈ t.kids, RW 28 [.d s.data, .d (.int .i64 k)] [] = some (tyV (raiseE k s))) (i : Nat) (hi : i < t.kids.length) :
    ∃ s, exec att RW LW c28_l0 (rsI t k p i) = some (.normal, s) ∧ norm [1, 2, 4, 5, 6] s = rsI t k p (i + 1) := by
  have hlen := hw.len
  have hi' : (i : Int) < t.kids.length := by omega
  have hk := kidAt hi
  have hu := ih _ (List.getElem_mem hi)
  have e1 : ((t.kids.take (i + 1)).map (raiseE k)).map T.data = ((t.kids.take i).map (raiseE k)).map T.data ++ [(raiseE k t.kids[i]).data] := by
    rw [List.take_succ_eq_append_getElem hi, List.map_append, List.map_append]; rfl
  have hlt : (t.kids.take i).length = i := by rw [List.length_take]; omega
  generalize t.kids[i] = s at hk hu e1
  generalize raiseE k s = u at hu e1
  rw [T.data_eq u] at e1
  rw [T.data_eq s] at hu
  unfold tyV at hu
  have hb1 : decide ((i + 1) * 88 ≤ 140737488355328) = true := by simp; omega
  refine ⟨?sx, ?g1, ?g2⟩
  case g1 =>
    unfold c28_l0 rsI bxT
    simp only [go_sem, hi', hk, T.data_eq s, hu, hlt, hb1]
    rfl
  case g2 =>
    rw [wrap64 (by omega) (by omega)]
    unfold rsI bxT
    rw [e1]
    show _ = _
    kernel_rfl
theorem raise_run (t : T) (k : Int) : Wf t → RW 28 [.d t.data, .d (.int .i64 k)] [] = some (tyV (raiseE k t)) := by
  induction t using T.ind with
  | h t ih =>
  intro hw
  have hlen := hw.len
  have hlab := hw.labLen
  have hb0 : decide (t.labels.length * 16 ≤ 140737488355328) = true := by simp; omega
  have z0 := sizes_str t.labels
  have hst := fun p => rs_step t k p hw (fun s hs => ih s hs (hw.kid hs))
  refine runW_fn rfl rfl ?_
  unfold runFn c28
  rw [raise_eq]
  by_cases h4 : 4 ≤ t.kind ∧ t.kind ≤ 7
  · have d1 : decide (4 ≤ t.kind) = true := decide_eq_true h4.1
    have d2 : decide (t.kind ≤ 7) = true := decide_eq_true h4.2
    rw [if_pos h4]
    simp only [go_sem, T.data_eq t, d1, d2, hb0, z0]
    refine obind_loop (e := ?e) (I := rsI t k (IntKind.wrap .i64 (t.prio + k))) (n := t.kids.length) (by kernel_rfl) (hst _) ?he ?hn ?rest
    case he =>
      unfold c28_l0 rsI bxT
      simp only [go_sem, List.take_length]
      rfl
    case hn => intro h; cases h
    case rest =>
      simp only [go_sem]
      show _ = _
      kernel_rfl
  · rw [if_neg h4]
    by_cases h5 : 4 ≤ t.kind
    · have d1 : decide (4 ≤ t.kind) = true := decide_eq_true h5
      have d2 : decide (t.kind ≤ 7) = false := decide_eq_false (by omega)
      simp only [go_sem, T.data_eq t, d1, d2, hb0, z0]
      refine obind_loop (e := ?e2) (I := rsI t k t.prio) (n := t.kids.length) (by kernel_rfl) (hst _) ?he2 ?hn2 ?rest2
      case he2 =>
        unfold c28_l0 rsI bxT
        simp only [go_sem, List.take_length]
        rfl
      case hn2 => intro h; cases h
      case rest2 =>
        simp only [go_sem]
        show _ = _
        kernel_rfl
    · have d1 : decide (4 ≤ t.kind) = false := decide_eq_false h5
      simp only [go_sem, T.data_eq t, d1, hb0, z0]
      refine obind_loop (e := ?e3) (I := rsI t k t.prio) (n := t.kids.length) (by kernel_rfl) (hst _) ?he3 ?hn3 ?rest3
      case he3 =>
        unfold c28_l0 rsI bxT
        simp only [go_sem, List.take_length]
        rfl
      case hn3 => intro h; cases h
      case rest3 =>
        simp only [go_sem]
        show _ = _
        kernel_rfl
end Go.Proofs.YtijfioakpngdhaaDoor

namespace Go.Proofs.YtijfioakpngdhaaDoor
open Go.V
set_option maxRecDepth 100000
set_option linter.unusedSimpArgs false
set_option linter.unusedVariables false

theorem Wf.prioR {t : T} (h : Wf t) : -9223372036854775808 ≤ t.prio ∧ t.prio < 9223372036854775808 := by cases t; rw [Wf] at h; exact h.2.2.2.2.2.1
theorem Wf.shiftR {t : T} (h : Wf t) : -9223372036854775808 ≤ t.shift ∧ t.shift < 9223372036854775808 := by cases t; rw [Wf] at h; exact h.2.2.2.2.2.2.1
theorem Wf.kindR {t : T} (h : Wf t) : -9223372036854775808 ≤ t.kind ∧ t.kind < 9223372036854775808 := by cases t; rw [Wf] at h; exact h.2.2.2.2.1
theorem WfL_of {l : List T} (h : ∀ t ∈ l, Wf t) : WfL l := by
  induction l with
  | nil => exact trivial
  | cons x l ih => exact ⟨h x List.mem_cons_self, ih fun t ht => h t (List.mem_cons_of_mem _ ht)⟩
theorem Wf.mk' {t : T} (h1 : t.name.length < 1000000000) (h2 : t.labels.length < 1000000000) (h3 : ∀ l ∈ t.labels, l.length < 1000000000) (h4 : t.kids.length < 1000000000) (h5 : -9223372036854775808 ≤ t.kind ∧ t.kind < 9223372036854775808)
    (h6 : -9223372036854775808 ≤ t.prio ∧ t.prio < 9223372036854775808) (h7 : -9223372036854775808 ≤ t.shift ∧ t.shift < 9223372036854775808) (h8 : ∀ s ∈ t.kids, Wf s) : Wf t := by
  cases t; rw [Wf]; exact ⟨h1, h2, h3, h4, h5, h6, h7, WfL_of h8⟩
theorem T.eta (t : T) : T.mk t.kind t.prio t.name t.shift t.labels t.kids = t := by cases t; rfl
theorem raise_zero (t : T) : Wf t → raiseE 0 t = t := by
  induction t using T.ind with
  | h t ih =>
  intro hw
  have hp := hw.prioR
  rw [raise_eq, Int.add_zero, wrap64 hp.1 hp.2, ite_self]
  have : t.kids.map (raiseE 0) = t.kids := by
    have : t.kids.map (raiseE 0) = t.kids.map id := List.map_congr_left fun s hs => ih s hs (hw.kid hs)
    rw [this, List.map_id]
  rw [this, T.eta]
theorem wrap_range (x : Int) : -9223372036854775808 ≤ IntKind.wrap .i64 x ∧ IntKind.wrap .i64 x < 9223372036854775808 := by
  have e1 : (2 ^ IntKind.i64.bits : Int) = 18446744073709551616 := by decide
  have e2 : (2 ^ (IntKind.i64.bits - 1) : Int) = 9223372036854775808 := by decide
  have e3 : IntKind.i64.signed = true := rfl
  unfold IntKind.wrap
  rw [e1, e2, e3]
  dsimp only
  simp only [Bool.true_and, decide_eq_true_eq]
  split <;> omega
theorem raise_wf (k : Int) (t : T) : Wf t → Wf (raiseE k t) := by
  induction t using T.ind with
  | h t ih =>
  intro hw
  refine Wf.mk' (by rw [raise_name]; exact hw.nameLen) (by rw [raise_labels]; exact hw.labLen) (by rw [raise_labels]; exact hw.labLens) (by rw [raise_kids, List.length_map]; exact hw.len) (by rw [raise_kind]; exact hw.kindR) ?_ (by rw [raise_shift]; exact hw.shiftR) ?_
  · rw [raise_prio]
    split
    · exact wrap_range _
    · exact hw.prioR
  · rw [raise_kids]
    intro s hs
    obtain ⟨u, hu, rfl⟩ := List.mem_map.1 hs
    exact ih u hu (hw.kid hu)

mutual
def putE (x : List UInt8) (b : T) : T → T
  | .mk kd p n s ls ks => if kd = 9 ∧ n = x then raiseE s b else if kd = 8 ∧ n = x then .mk kd p n s ls ks else .mk kd p n s ls (putL x b ks)
def putL (x : List UInt8) (b : T) : List T → List T
  | [] => []
  | t :: l => putE x b t :: putL x b l
end
theorem putL_eq (x : List UInt8) (b : T) (l : List T) : putL x b l = l.map (putE x b) := by
  induction l with
  | nil => rfl
  | cons t l ih => rw [putL, ih]; rfl
theorem put_eq (x : List UInt8) (b : T) (t : T) : putE x b t = if t.kind = 9 ∧ t.name = x then raiseE t.shift b else if t.kind = 8 ∧ t.name = x then t else .mk t.kind t.prio t.name t.shift t.labels (t.kids.map (putE x b)) := by
  cases t; rw [putE, putL_eq]; rfl
theorem put_wf (x : List UInt8) (b : T) (hb : Wf b) (t : T) : Wf t → Wf (putE x b t) := by
  induction t using T.ind with
  | h t ih =>
  intro hw
  rw [put_eq]
  split
  · exact raise_wf _ _ hb
  · split
    · exact hw
    · refine Wf.mk' hw.nameLen hw.labLen hw.labLens (by show (t.kids.map _).length < _; rw [List.length_map]; exact hw.len) hw.kindR hw.prioR hw.shiftR ?_
      intro s hs
      obtain ⟨u, hu, rfl⟩ := List.mem_map.1 (show s ∈ t.kids.map _ from hs)
      exact ih u hu (hw.kid hu)

theorem set_mid {α β : Type} (f : α → β) (g : α → β) (l : List α) (i : Nat) (x : α) (h : l[i]? = some x) : ((l.take i).map f ++ (l.drop i).map g).set i (f x) = (l.take (i + 1)).map f ++ (l.drop (i + 1)).map g := by
  obtain ⟨hi, hx⟩ := List.getElem?_eq_some_iff.1 h
  have hd : l.drop i = x :: l.drop (i + 1) := by rw [List.drop_eq_getElem_cons hi, hx]
  have hl : ((l.take i).map f).length = i := by rw [List.length_map, List.length_take]; omega
  rw [hd, List.map_cons, List.set_append_right _ _ (by omega), hl, Nat.sub_self, List.set_cons_zero, List.take_succ_eq_append_getElem hi, hx, List.map_append, List.append_assoc]
  rfl

def puI (t b : T) (x : List UInt8) (i : Nat) : St := ⟨[(1, .d (.str x)), (3, .ptr 0 0), (5, .ptr 1 0), (6, .ptr 2 0), (7, .ptr 5 0), (8, .d (.int .i64 i))],
  [(0, some (bxT t)), (1, some (bxT b)), (2, some (.box [.d (.int .i64 0), .d (.int .i64 0), .d (.str []), .d (.int .i64 0), .own 3, .own 4])), (3, some (.arr 1 [] true)), (4, some (.arr 6 [] true)),
   (5, some (.box [.d (.int .i64 t.kind), .d (.int .i64 t.prio), .d (.str t.name), .d (.int .i64 t.shift), .own 6, .own 7])), (6, some (.arr 1 (t.labels.map .str) true)), (7, some (.arr 6 ((t.kids.take i).map (fun s => (putE x b s).data) ++ (t.kids.drop i).map T.data) true))], 8, 0, false⟩
theorem pu_step (t b : T) (x : List UInt8) (hw : Wf t) (ih : ∀ s ∈ t.kids, RW 75 [.d s.data, .d (.str x), .d b.data] [] = some (tyV (putE x b s))) (i : Nat) (hi : i < t.kids.length) :
    ∃ s, exec att RW LW c75_l0 (puI t b x i) = some (.normal, s) ∧ norm [1, 3, 5, 6, 7, 8] s = puI t b x (i + 1) := by
  have hlen := hw.len
  have hi' : (i : Int) < t.kids.length := by omega
  have hk := kidAt hi
  have hu := ih _ (List.getElem_mem hi)
  have e1 := set_mid (fun s => (putE x b s).data) T.data t.kids i _ hk
  have hll : decide (i < ((t.kids.take i).map (fun s => (putE x b s).data) ++ (t.kids.drop i).map T.data).length) = true := by
    simp [List.length_append]; omega
  have hz : ((t.kids.take i).map (fun s => (putE x b s).data) ++ (t.kids.drop i).map T.data)[i]? = some t.kids[i].data := by
    have hl : ((t.kids.take i).map (fun s => (putE x b s).data)).length = i := by rw [List.length_map, List.length_take]; omega
    rw [List.getElem?_append_right (by omega), hl, Nat.sub_self, List.getElem?_map, List.getElem?_drop, Nat.add_zero, hk]; rfl
  generalize t.kids[i] = s at hk hu e1 hz
  generalize putE x b s = u at hu e1
  rw [T.data_eq u] at e1
  rw [T.data_eq s, T.data_eq b] at hu
  rw [T.data_eq s] at hz
  unfold tyV at hu
  refine ⟨?sx, ?g1, ?g2⟩
  case g1 =>
    unfold c75_l0 puI bxT
    simp only [go_sem, hi', hk, T.data_eq s, hu, hll, hz]
    rfl
  case g2 =>
    rw [wrap64 (by omega) (by omega)]
    unfold puI bxT
    rw [← e1]
    show _ = _
    kernel_rfl
theorem put_run (x : List UInt8) (b : T) (hwb : Wf b) (t : T) : Wf t → RW 75 [.d t.data, .d (.str x), .d b.data] [] = some (tyV (putE x b t)) := by
  induction t using T.ind with
  | h t ih =>
  intro hw
  have hst := fun i hi => pu_step t b x hw (fun s hs => ih s hs (hw.kid hs)) i hi
  have hlen := hw.len
  have hr0 := raise_run t 0 hw
  have hrb := raise_run b t.shift hwb
  rw [raise_zero t hw] at hr0
  rw [put_eq]
  generalize raiseE t.shift b = u at hrb ⊢
  rw [T.data_eq] at hr0 hrb
  unfold tyV at hr0 hrb
  refine runW_fn rfl rfl ?_
  unfold runFn c75
  by_cases h9 : t.kind = 9 ∧ t.name = x
  · have d1 : decide (t.kind = 9) = true := decide_eq_true h9.1
    have d2 : decide (t.name = x) = true := decide_eq_true h9.2
    rw [if_pos h9]
    simp only [go_sem, T.data_eq t, T.data_eq b, d1, d2, hrb]
    show _ = _
    kernel_rfl
  · rw [if_neg h9]
    have d1 : decide (t.kind = 9) = true → decide (t.name = x) = false := fun h => decide_eq_false fun h2 => h9 ⟨of_decide_eq_true h, h2⟩
    by_cases h8 : t.kind = 8 ∧ t.name = x
    · have d0 : decide (t.kind = 9) = false := decide_eq_false (by omega)
      have d2 : decide (t.kind = 8) = true := decide_eq_true h8.1
      have d3 : decide (t.name = x) = true := decide_eq_true h8.2
      rw [if_pos h8]
      simp only [go_sem, T.data_eq t, T.data_eq b, d0, d2, d3, hr0]
      show _ = _
      kernel_rfl
    · rw [if_neg h8]
      have fin : ∀ e, exec att RW LW c75_l0 (puI t b x t.kids.length) = some e → True := fun _ _ => trivial
      cases d9 : decide (t.kind = 9) with
      | true =>
        have dn := d1 d9
        have d2 : decide (t.kind = 8) = false := decide_eq_false (by have := of_decide_eq_true d9; omega)
        simp only [go_sem, T.data_eq t, T.data_eq b, d9, dn, d2, hr0]
        refine obind_loop (e := ?e) (I := puI t b x) (n := t.kids.length) (by kernel_rfl) hst ?he ?hn ?rest
        case he =>
          unfold c75_l0 puI bxT
          simp only [go_sem, List.take_length, List.drop_length, List.map_nil, List.append_nil]
          rfl
        case hn => intro h; cases h
        case rest =>
          simp only [go_sem]
          rw [show (t.kids.map fun s => (putE x b s).data) = (t.kids.map (putE x b)).map T.data by rw [List.map_map]; rfl]
          show _ = _
          kernel_rfl
      | false =>
        cases d8 : decide (t.kind = 8) with
        | true =>
          have dn : decide (t.name = x) = false := decide_eq_false fun h2 => h8 ⟨of_decide_eq_true d8, h2⟩
          simp only [go_sem, T.data_eq t, T.data_eq b, d9, d8, dn, hr0]
          refine obind_loop (e := ?e2) (I := puI t b x) (n := t.kids.length) (by kernel_rfl) hst ?he2 ?hn2 ?rest2
          case he2 =>
            unfold c75_l0 puI bxT
            simp only [go_sem, List.take_length, List.drop_length, List.map_nil, List.append_nil]
            rfl
          case hn2 => intro h; cases h
          case rest2 =>
            simp only [go_sem]
            rw [show (t.kids.map fun s => (putE x b s).data) = (t.kids.map (putE x b)).map T.data by rw [List.map_map]; rfl]
            show _ = _
            kernel_rfl
        | false =>
          simp only [go_sem, T.data_eq t, T.data_eq b, d9, d8, hr0]
          refine obind_loop (e := ?e3) (I := puI t b x) (n := t.kids.length) (by kernel_rfl) hst ?he3 ?hn3 ?rest3
          case he3 =>
            unfold c75_l0 puI bxT
            simp only [go_sem, List.take_length, List.drop_length, List.map_nil, List.append_nil]
            rfl
          case hn3 => intro h; cases h
          case rest3 =>
            simp only [go_sem]
            rw [show (t.kids.map fun s => (putE x b s).data) = (t.kids.map (putE x b)).map T.data by rw [List.map_map]; rfl]
            show _ = _
            kernel_rfl

/-- a type unfolded, at most so many times -/
def unfE : Nat → T → T
  | 0, t => t
  | m + 1, t => if t.kind = 8 then (match t.kids with | [] => t | s :: _ => unfE m (putE t.name t s)) else t
theorem unfE_succ (m : Nat) (t : T) : unfE (m + 1) t = if t.kind = 8 then (match t.kids with | [] => t | s :: _ => unfE m (putE t.name t s)) else t := rfl
theorem unf_run : ∀ (m : Nat) (t : T), Wf t → (unfE m t).kind ≠ 8 → RW 65 [.d t.data] [] = some (tyV (unfE m t)) := by
  have base : ∀ t : T, Wf t → t.kind ≠ 8 → RW 65 [.d t.data] [] = some (tyV t) := by
    intro t hw h8
    have hr0 := raise_run t 0 hw
    rw [raise_zero t hw] at hr0
    rw [T.data_eq] at hr0 ⊢
    unfold tyV at hr0
    refine runW_fn rfl rfl ?_
    unfold runFn c65
    simp only [go_sem, h8, hr0]
    show _ = _
    kernel_rfl
  intro m
  induction m with
  | zero => intro t hw h8; exact base t hw h8
  | succ m ih =>
    intro t hw h8
    rw [unfE_succ] at h8 ⊢
    by_cases hk : t.kind = 8
    · rw [if_pos hk] at h8 ⊢
      cases hks : t.kids with
      | nil => rw [hks] at h8; exact absurd hk h8
      | cons s l =>
        rw [hks] at h8
        dsimp only at h8 ⊢
        have hm : s ∈ t.kids := by rw [hks]; exact List.mem_cons_self
        have hp := put_run t.name t hw s (hw.kid hm)
        have hu := ih (putE t.name t s) (put_wf t.name t hw s (hw.kid hm)) h8
        generalize putE t.name t s = p at hp hu h8 ⊢
        generalize unfE m p = u at hu ⊢
        have hg : t.kids[0]? = some s := by rw [hks]; rfl
        have d8 : decide (t.kind = 8) = true := decide_eq_true hk
        rw [T.data_eq s, T.data_eq t] at hp
        rw [T.data_eq p] at hu
        unfold tyV at hp hu
        rw [T.data_eq t]
        refine runW_fn rfl rfl ?_
        unfold runFn c65
        simp only [go_sem, d8, hg, T.data_eq s, hp, hu]
        show _ = _
        kernel_rfl
    · rw [if_neg hk] at h8 ⊢
      exact base t hw hk
end Go.Proofs.YtijfioakpngdhaaDoor

namespace Go.Proofs.YtijfioakpngdhaaDoor
open Go.V
set_option maxRecDepth 100000
set_option linter.unusedSimpArgs false
set_option linter.unusedVariables false

theorem wrap_spec (x : Int) : ∃ q : Int, IntKind.wrap .i64 x = x + q * 18446744073709551616 := by
  have e1 : (2 ^ IntKind.i64.bits : Int) = 18446744073709551616 := by decide
  have e2 : (2 ^ (IntKind.i64.bits - 1) : Int) = 9223372036854775808 := by decide
  have e3 : IntKind.i64.signed = true := rfl
  unfold IntKind.wrap
  rw [e1, e2, e3]
  dsimp only
  simp only [Bool.true_and, decide_eq_true_eq]
  have := Int.emod_add_mul_ediv x 18446744073709551616
  split
  · exact ⟨-(x / 18446744073709551616) - 1, by omega⟩
  · exact ⟨-(x / 18446744073709551616), by omega⟩
theorem wrap_congr {x y q : Int} (h : y = x + q * 18446744073709551616) : IntKind.wrap .i64 y = IntKind.wrap .i64 x := by
  have a := wrap_range x
  have b := wrap_range y
  obtain ⟨q1, h1⟩ := wrap_spec x
  obtain ⟨q2, h2⟩ := wrap_spec y
  omega
theorem wrap_wrap (x y : Int) : IntKind.wrap .i64 (IntKind.wrap .i64 x + y) = IntKind.wrap .i64 (x + y) := by
  obtain ⟨q, h⟩ := wrap_spec x
  exact wrap_congr (q := q) (by rw [h]; omega)

theorem raise_raise (a b : Int) (t : T) : raiseE a (raiseE b t) = raiseE (b + a) t := by
  induction t using T.ind with
  | h t ih =>
  rw [raise_eq a, raise_kind, raise_prio, raise_name, raise_shift, raise_labels, raise_kids, raise_eq (b + a), List.map_map]
  congr 1
  · split
    · rw [wrap_wrap, Int.add_assoc]
    · rfl
  · exact List.map_congr_left fun s hs => ih s hs
theorem put_raise (k : Int) (x : List UInt8) (b t : T) : putE x (raiseE k b) (raiseE k t) = raiseE k (putE x b t) := by
  induction t using T.ind with
  | h t ih =>
  rw [put_eq, raise_kind, raise_name, raise_shift, put_eq x b t]
  split
  · rename_i h
    rw [raise_raise, raise_raise, Int.add_comm]
  · split
    · rfl
    · rename_i h1 h2
      rw [raise_eq k (T.mk _ _ _ _ _ _), raise_prio, raise_labels, raise_kids, List.map_map]
      show T.mk _ _ _ _ _ _ = T.mk _ _ _ _ _ _
      congr 1
      rw [show (T.mk t.kind t.prio t.name t.shift t.labels (t.kids.map (putE x b))).kids = t.kids.map (putE x b) from rfl, List.map_map]
      exact List.map_congr_left fun s hs => ih s hs
theorem unf_raise (k : Int) : ∀ (m : Nat) (t : T), unfE m (raiseE k t) = raiseE k (unfE m t)
  | 0, t => rfl
  | m + 1, t => by
    rw [unfE_succ, unfE_succ, raise_kind, raise_kids]
    split
    · cases hk : t.kids with
      | nil => rfl
      | cons s l =>
        rw [List.map_cons]
        dsimp only
        rw [raise_name, put_raise, unf_raise k m]
    · rfl
theorem unf_stay {t : T} (h : t.kind ≠ 8) : ∀ m, unfE m t = t
  | 0 => rfl
  | m + 1 => by rw [unfE_succ, if_neg h]
theorem unf_stable : ∀ (m : Nat) (t : T), (unfE m t).kind ≠ 8 → ∀ k, unfE (m + k) t = unfE m t
  | 0, t, h, k => by rw [Nat.zero_add]; exact unf_stay h k
  | m + 1, t, h, k => by
    rw [show m + 1 + k = (m + k) + 1 by omega, unfE_succ, unfE_succ]
    rw [unfE_succ] at h
    split
    · rename_i h8
      rw [if_pos h8] at h
      cases hk : t.kids with
      | nil => rfl
      | cons s l =>
        rw [hk] at h
        exact unf_stable m _ h k
    · rfl
theorem unf_unique {m n : Nat} {t : T} (h1 : (unfE m t).kind ≠ 8) (h2 : (unfE n t).kind ≠ 8) : unfE m t = unfE n t := by
  have a := unf_stable m t h1 n
  have b := unf_stable n t h2 m
  rw [← a, ← b, Nat.add_comm]
/-- a type unfolded -/
noncomputable def unfoldE (t : T) : T := open Classical in if h : ∃ m, (unfE m t).kind ≠ 8 then unfE (Classical.choose h) t else t
theorem unfold_eq {m : Nat} {t : T} (h : (unfE m t).kind ≠ 8) : unfoldE t = unfE m t := by
  unfold unfoldE
  have hx : ∃ m, (unfE m t).kind ≠ 8 := ⟨m, h⟩
  rw [dif_pos hx]
  exact unf_unique (Classical.choose_spec hx) h
/-- a type that can be unfolded -/
def Unf (t : T) : Prop := ∃ m, (unfE m t).kind ≠ 8
theorem Unf.raise {t : T} (h : Unf t) (k : Int) : Unf (raiseE k t) ∧ unfoldE (raiseE k t) = raiseE k (unfoldE t) := by
  obtain ⟨m, h⟩ := h
  have h' : (unfE m (raiseE k t)).kind ≠ 8 := by rw [unf_raise, raise_kind]; exact h
  exact ⟨⟨m, h'⟩, by rw [unfold_eq h', unfold_eq h, unf_raise]⟩
theorem Unf.kind {t : T} (h : Unf t) : (unfoldE t).kind ≠ 8 := by obtain ⟨m, h⟩ := h; rw [unfold_eq h]; exact h
theorem Unf.step {t s : T} {l : List T} (h8 : t.kind = 8) (hk : t.kids = s :: l) (h : Unf (putE t.name t s)) : Unf t ∧ unfoldE t = unfoldE (putE t.name t s) := by
  obtain ⟨m, h⟩ := h
  have e : unfE (m + 1) t = unfE m (putE t.name t s) := by rw [unfE_succ, if_pos h8, hk]
  have h' : (unfE (m + 1) t).kind ≠ 8 := by rw [e]; exact h
  exact ⟨⟨_, h'⟩, by rw [unfold_eq h', unfold_eq h, e]⟩
theorem Unf.stay {t : T} (h : t.kind ≠ 8) : Unf t ∧ unfoldE t = t := ⟨⟨0, h⟩, unfold_eq (m := 0) h⟩
theorem unf_wf : ∀ (m : Nat) (t : T), Wf t → Wf (unfE m t)
  | 0, t, h => h
  | m + 1, t, h => by
    rw [unfE_succ]
    split
    · cases hk : t.kids with
      | nil => exact h
      | cons s l => exact unf_wf m _ (put_wf _ _ h _ (h.kid (by rw [hk]; exact List.mem_cons_self)))
    · exact h
theorem unfold_wf {t : T} (h : Wf t) : Wf (unfoldE t) := by
  unfold unfoldE
  split
  · exact unf_wf _ _ h
  · exact h
theorem unfold_run {t : T} (hw : Wf t) (h : Unf t) : RW 65 [.d t.data] [] = some (tyV (unfoldE t)) := by
  obtain ⟨m, h⟩ := h
  rw [unfold_eq h]; exact unf_run m t hw h

/-! ### closed types -/
/-- all free names of a type are in a list -/
inductive Cl : List (List UInt8) → T → Prop
  | var (L t) (h : t.kind = 9) (k : t.kids = []) (m : t.name ∈ L) : Cl L t
  | bind (L t) (h : t.kind = 8) (k : ∀ s ∈ t.kids, Cl (t.name :: L) s) : Cl L t
  | node (L t) (h : t.kind ≠ 8) (h9 : t.kind ≠ 9) (k : ∀ s ∈ t.kids, Cl L s) : Cl L t
theorem Cl.raise {L : List (List UInt8)} {t : T} (h : Cl L t) (k : Int) : Cl L (raiseE k t) := by
  induction h with
  | var L t h hk m => exact .var _ _ (by rw [raise_kind]; exact h) (by rw [raise_kids, hk]; rfl) (by rw [raise_name]; exact m)
  | bind L t h hk ih => exact .bind _ _ (by rw [raise_kind]; exact h) (by rw [raise_kids, raise_name]; intro s hs; obtain ⟨u, hu, rfl⟩ := List.mem_map.1 hs; exact ih u hu)
  | node L t h h9 hk ih => exact .node _ _ (by rw [raise_kind]; exact h) (by rw [raise_kind]; exact h9) (by rw [raise_kids]; intro s hs; obtain ⟨u, hu, rfl⟩ := List.mem_map.1 hs; exact ih u hu)
theorem Cl.mono {L : List (List UInt8)} {t : T} (h : Cl L t) : ∀ {M : List (List UInt8)}, (∀ x ∈ L, x ∈ M) → Cl M t := by
  induction h with
  | var L t h hk m => exact fun hm => .var _ _ h hk (hm _ m)
  | bind L t h hk ih =>
    exact fun hm => .bind _ _ h fun s hs => ih s hs fun x hx => by
      rcases List.mem_cons.1 hx with e | hx
      · exact e ▸ List.mem_cons_self
      · exact List.mem_cons_of_mem _ (hm x hx)
  | node L t h h9 hk ih => exact fun hm => .node _ _ h h9 fun s hs => ih s hs hm
theorem Cl.put {L : List (List UInt8)} {t : T} (h : Cl L t) (x : List UInt8) (b : T) : x ∉ L → putE x b t = t := by
  induction h with
  | var L t h hk m =>
    intro hx
    rw [put_eq, if_neg (fun hh : t.kind = 9 ∧ t.name = x => hx (hh.2 ▸ m)), if_neg (by omega), hk, List.map_nil, ← hk, T.eta]
  | bind L t h hk ih =>
    intro hx
    rw [put_eq, if_neg (by omega)]
    split
    · rfl
    · rename_i hn
      have : t.kids.map (putE x b) = t.kids.map id := List.map_congr_left fun s hs => ih s hs fun hm => by
        rcases List.mem_cons.1 hm with e | hm
        · exact hn ⟨h, e.symm⟩
        · exact hx hm
      rw [this, List.map_id, T.eta]
  | node L t h h9 hk ih =>
    intro hx
    have : t.kids.map (putE x b) = t.kids.map id := List.map_congr_left fun s hs => ih s hs hx
    rw [put_eq, if_neg (by omega), if_neg (by omega), this, List.map_id, T.eta]

/-! ### types closed by an environment: the innermost name first -/
abbrev Env := List (List UInt8 × T)
def lookE : Env → List UInt8 → Option T
  | [], _ => none
  | (y, c) :: F, x => if y = x then some c else lookE F x
mutual
def cloE (F : Env) (B : List (List UInt8)) : T → T
  | .mk k p n s ls ks => if k = 9 then (if n ∈ B then .mk k p n s ls ks else (match lookE F n with | some c => raiseE s c | none => .mk k p n s ls ks))
    else if k = 8 then .mk k p n s ls (cloL F (n :: B) ks) else .mk k p n s ls (cloL F B ks)
def cloL (F : Env) (B : List (List UInt8)) : List T → List T
  | [] => []
  | t :: l => cloE F B t :: cloL F B l
end
theorem cloL_eq (F : Env) (B : List (List UInt8)) (l : List T) : cloL F B l = l.map (cloE F B) := by
  induction l with
  | nil => rfl
  | cons t l ih => rw [cloL, ih]; rfl
theorem clo_eq (F : Env) (B : List (List UInt8)) (t : T) : cloE F B t = if t.kind = 9 then (if t.name ∈ B then t else (match lookE F t.name with | some c => raiseE t.shift c | none => t))
    else if t.kind = 8 then .mk t.kind t.prio t.name t.shift t.labels (t.kids.map (cloE F (t.name :: B))) else .mk t.kind t.prio t.name t.shift t.labels (t.kids.map (cloE F B)) := by
  cases t; rw [cloE, cloL_eq, cloL_eq]; rfl
theorem clo_congr (F F' : Env) (t : T) : ∀ (B B' : List (List UInt8)), (∀ x, x ∈ B ↔ x ∈ B') → (∀ x, x ∉ B → lookE F x = lookE F' x) → cloE F B t = cloE F' B' t := by
  induction t using T.ind with
  | h t ih =>
  intro B B' hB hF
  rw [clo_eq, clo_eq F']
  split
  · by_cases h : t.name ∈ B
    · rw [if_pos h, if_pos ((hB _).1 h)]
    · rw [if_neg h, if_neg (fun h' => h ((hB _).2 h')), hF _ h]
  · split
    · congr 1
      refine List.map_congr_left fun s hs => ih s hs _ _ (fun x => ?_) fun x hx => hF x fun h => hx (List.mem_cons_of_mem _ h)
      rw [List.mem_cons, List.mem_cons, hB]
    · congr 1
      exact List.map_congr_left fun s hs => ih s hs _ _ hB hF
/-- a put name is one more name of the environment -/
theorem put_clo (x : List UInt8) (c : T) (F : Env) (hF : ∀ y d, lookE F y = some d → Cl [] d) (t : T) : ∀ B : List (List UInt8), x ∉ B → (t.kind = 9 → t.kids = []) → (∀ s, s ∈ t.kids → True) → Shp t → putE x c (cloE F (x :: B) t) = cloE ((x, c) :: F) B t := by
  induction t using T.ind with
  | h t ih =>
  intro B hx _ _ hs
  rw [clo_eq, clo_eq ((x, c) :: F)]
  by_cases h9 : t.kind = 9
  · rw [if_pos h9, if_pos h9]
    have hk := (hs.var h9).1
    by_cases hn : t.name = x
    · rw [if_pos (by rw [hn]; exact List.mem_cons_self), if_neg (by rw [hn]; exact hx), put_eq, if_pos ⟨h9, hn⟩, lookE, if_pos hn.symm]
    · by_cases hb : t.name ∈ B
      · rw [if_pos (List.mem_cons_of_mem _ hb), if_pos hb, put_eq, if_neg (fun h => hn h.2), if_neg (by omega), hk, List.map_nil, ← hk, T.eta]
      · rw [if_neg (fun h => by rcases List.mem_cons.1 h with e | h; exact hn e; exact hb h), if_neg hb, lookE, if_neg (fun h => hn h.symm)]
        cases hl : lookE F t.name with
        | none =>
          dsimp only
          rw [put_eq, if_neg (fun h => hn h.2), if_neg (by omega), hk, List.map_nil, ← hk, T.eta]
        | some d =>
          dsimp only
          exact ((hF _ _ hl).raise _).put x c (by simp)
  · rw [if_neg h9, if_neg h9]
    by_cases h8 : t.kind = 8
    · rw [if_pos h8, if_pos h8]
      by_cases hn : t.name = x
      · rw [put_eq, if_neg (fun h => h9 h.1), if_pos ⟨h8, hn⟩]
        congr 1
        refine List.map_congr_left fun s hs => clo_congr _ _ _ _ _ (fun y => ?_) fun y hy => ?_
        · rw [hn]; simp
        · rw [lookE, if_neg]
          intro e
          exact hy (by rw [← e, hn]; exact List.mem_cons_self)
      · rw [put_eq, if_neg (fun h => h9 h.1), if_neg (fun h => hn h.2)]
        show T.mk _ _ _ _ _ _ = T.mk _ _ _ _ _ _
        congr 1
        rw [show (T.mk t.kind t.prio t.name t.shift t.labels (t.kids.map (cloE F (t.name :: x :: B)))).kids = t.kids.map (cloE F (t.name :: x :: B)) from rfl, List.map_map]
        refine List.map_congr_left fun s hsm => ?_
        rw [Function.comp, ← ih s hsm (t.name :: B) (fun h => by rcases List.mem_cons.1 h with e | h; exact hn e.symm; exact hx h) (fun h => ((hs.kid s hsm).var h).1) (fun _ _ => trivial) (hs.kid s hsm)]
        congr 1
        refine clo_congr _ _ _ _ _ (fun y => ?_) fun y hy => rfl
        simp only [List.mem_cons]
        constructor
        · rintro (h | h | h)
          · exact .inr (.inl h)
          · exact .inl h
          · exact .inr (.inr h)
        · rintro (h | h | h)
          · exact .inr (.inl h)
          · exact .inl h
          · exact .inr (.inr h)
    · rw [if_neg h8, if_neg h8, put_eq, if_neg (fun h => h9 h.1), if_neg (fun h => h8 h.1)]
      show T.mk _ _ _ _ _ _ = T.mk _ _ _ _ _ _
      congr 1
      rw [show (T.mk t.kind t.prio t.name t.shift t.labels (t.kids.map (cloE F (x :: B)))).kids = t.kids.map (cloE F (x :: B)) from rfl, List.map_map]
      exact List.map_congr_left fun s hsm => ih s hsm B hx (fun h => ((hs.kid s hsm).var h).1) (fun _ _ => trivial) (hs.kid s hsm)
end Go.Proofs.YtijfioakpngdhaaDoor

namespace Go.Proofs.YtijfioakpngdhaaDoor
open Go.V
set_option maxRecDepth 100000
set_option linter.unusedSimpArgs false
set_option linter.unusedVariables false

theorem findE_mem (L : List (List UInt8)) (x : List UInt8) (g : Int) : ∀ M, findE L x g M = 0 → ∃ i, i < M ∧ (i : Int) < g ∧ L[i]? = some x ∧ ∀ j, i < j → j < M → L[j]? ≠ some x
  | 0, h => by cases h
  | M + 1, h => by
    rw [findE_succ] at h
    by_cases hx : L[M]? = some x
    · rw [if_pos hx] at h
      by_cases hm : (M : Int) < g
      · exact ⟨M, by omega, hm, hx, fun j h1 h2 => by omega⟩
      · rw [if_neg hm] at h; cases h
    · rw [if_neg hx] at h
      obtain ⟨i, h1, h2, h3, h4⟩ := findE_mem L x g M h
      refine ⟨i, by omega, h2, h3, fun j hj hj2 => ?_⟩
      by_cases e : j = M
      · rw [e]; exact hx
      · exact h4 j hj (by omega)
theorem find_split {names ext : List (List UInt8)} {x : List UInt8} {g : Int} (hg : g ≤ names.length) (h : findE (names ++ ext) x g (names ++ ext).length = 0) : x ∈ names ∧ x ∉ ext := by
  obtain ⟨i, h1, h2, h3, h4⟩ := findE_mem _ _ _ _ h
  have hi : i < names.length := by omega
  rw [List.getElem?_append_left hi] at h3
  refine ⟨List.mem_of_getElem? h3, fun hm => ?_⟩
  obtain ⟨j, hj⟩ := List.mem_iff_getElem?.1 hm
  have hjl := (List.getElem?_eq_some_iff.1 hj).1
  refine h4 (names.length + j) (by omega) (by rw [List.length_append]; omega) ?_
  rw [List.getElem?_append_right (by omega), Nat.add_sub_cancel_left]; exact hj

section
variable (ty : Nat → T)
/-- a reference and the closed type that it stands for -/
structure GP (r : Rf) (c : T) : Prop where
  cl : Cl [] c
  wf : Wf c
  unf : Unf c
  eq : unfoldE c = raiseE r.shift (ty r.node.toNat)
inductive EnvOk : List (List UInt8) → List Rf → Env → Prop
  | nil : EnvOk [] [] []
  | snoc (names refs F x r c) (h : EnvOk names refs F) (k : GP ty r c) : EnvOk (names ++ [x]) (refs ++ [r]) ((x, c) :: F)
end
section
variable {ty : Nat → T}
theorem EnvOk.len {names : List (List UInt8)} {refs : List Rf} {F : Env} (h : EnvOk ty names refs F) : refs.length = names.length := by
  induction h with
  | nil => rfl
  | snoc names refs F x r c h k ih => rw [List.length_append, List.length_append, ih]; rfl
theorem EnvOk.cl {names : List (List UInt8)} {refs : List Rf} {F : Env} (h : EnvOk ty names refs F) : ∀ y d, lookE F y = some d → Cl [] d ∧ Wf d := by
  induction h with
  | nil => intro y d h; cases h
  | snoc names refs F x r c h k ih =>
    intro y d hl
    rw [lookE] at hl
    split at hl
    · injection hl with hl; subst hl; exact ⟨k.cl, k.wf⟩
    · exact ih y d hl
theorem lookR_left (names : List (List UInt8)) (refs : List Rf) (y : List UInt8) (r : Rf) (x : List UInt8) (s : Int) (z : Rf) (hl : refs.length = names.length) : ∀ m, m ≤ names.length → lookR (names ++ [y]) (refs ++ [r]) x s z m = lookR names refs x s z m
  | 0, _ => rfl
  | m + 1, hm => by
    rw [lookR_succ, lookR_succ, List.getElem?_append_left (by omega), List.getElem?_append_left (by omega), lookR_left names refs y r x s z hl m (by omega)]
theorem EnvOk.look {names : List (List UInt8)} {refs : List Rf} {F : Env} (h : EnvOk ty names refs F) (x : List UInt8) (s : Int) (z : Rf) : x ∈ names → ∃ ρ c, lookR names refs x s z names.length = ⟨ρ.node, ρ.shift + s⟩ ∧ lookE F x = some c ∧ GP ty ρ c := by
  induction h with
  | nil => intro hx; cases hx
  | snoc names refs F y r c h k ih =>
    intro hx
    rw [List.length_append, List.length_singleton, lookR_succ, List.getElem?_append_right (by omega), Nat.sub_self]
    by_cases e : y = x
    · refine ⟨r, c, ?_, by rw [lookE, if_pos e], k⟩
      rw [if_pos (by rw [e]; rfl), List.getElem?_append_right (by rw [h.len]; omega), h.len, Nat.sub_self]; rfl
    · have hx' : x ∈ names := by
        rcases List.mem_append.1 hx with hx | hx
        · exact hx
        · exact absurd (List.mem_singleton.1 hx).symm e
      obtain ⟨ρ, d, h1, h2, h3⟩ := ih hx'
      refine ⟨ρ, d, ?_, by rw [lookE, if_neg e]; exact h2, h3⟩
      rw [if_neg (by intro hh; exact e (by injection hh)), lookR_left names refs y r x s z h.len _ (Nat.le_refl _)]; exact h1
end

/-- a right node's names are bound -/
theorem clo_cl (t : T) : ∀ (L B : List (List UInt8)) (G : Env) (g : Int) (ses : Bool), Wf t → L.length + t.size < 1000000000 → nodeV t L g ses = 0 → (∀ y ∈ L, y ∈ B ∨ ∃ d, lookE G y = some d ∧ Cl [] d) → Cl B (cloE G B t) := by
  induction t using T.ind with
  | h t ih =>
  intro L B G g ses hw hs hz hG
  have hsz := T.size_eq t
  obtain ⟨hsh, o9, o8, o7⟩ := nodeV_out hw hs hz
  have hk := shape_kinds hsh
  rw [clo_eq]
  by_cases h9 : t.kind = 9
  · rw [if_pos h9]
    obtain ⟨i, h1, h2, h3, h4⟩ := findE_mem _ _ _ _ (o9 h9)
    have hm := List.mem_of_getElem? h3
    have hnil : t.kids = [] := by
      have := hsh
      unfold shapeB at this
      simp only [h9] at this
      simp at this
      exact List.eq_nil_of_length_eq_zero (by have := this.2.2.2.2; simpa using this)
    by_cases hb : t.name ∈ B
    · rw [if_pos hb]; exact .var _ _ h9 hnil hb
    · rw [if_neg hb]
      rcases hG _ hm with h | ⟨d, h, hd⟩
      · exact absurd h hb
      · rw [h]; exact (hd.raise _).mono fun x hx => by cases hx
  · rw [if_neg h9]
    by_cases h8 : t.kind = 8
    · rw [if_pos h8]
      refine .bind _ _ h8 fun s hs' => ?_
      obtain ⟨u, hu, rfl⟩ := List.mem_map.1 (show s ∈ t.kids.map _ from hs')
      have hss := T.size_mem hu
      refine ih u hu (L ++ [t.name]) (t.name :: B) G g true (hw.kid hu) (by rw [List.length_append, List.length_singleton]; omega) (o8 h8 u hu) fun y hy => ?_
      rcases List.mem_append.1 hy with hy | hy
      · rcases hG y hy with h | h
        · exact .inl (List.mem_cons_of_mem _ h)
        · exact .inr h
      · rw [List.mem_singleton.1 hy]; exact .inl List.mem_cons_self
    · rw [if_neg h8]
      refine .node _ _ h8 h9 fun s hs' => ?_
      obtain ⟨u, hu, rfl⟩ := List.mem_map.1 (show s ∈ t.kids.map _ from hs')
      have hss := T.size_mem hu
      obtain ⟨b, hb⟩ := o7 (by omega) u hu
      exact ih u hu L B G L.length b (hw.kid hu) (by omega) hb hG
theorem clo_wf (G : Env) (hG : ∀ y d, lookE G y = some d → Wf d) (t : T) : ∀ B, Wf t → Wf (cloE G B t) := by
  induction t using T.ind with
  | h t ih =>
  intro B hw
  rw [clo_eq]
  split
  · split
    · exact hw
    · cases h : lookE G t.name with
      | none => exact hw
      | some d => exact raise_wf _ _ (hG _ _ h)
  · split
    · refine Wf.mk' hw.nameLen hw.labLen hw.labLens (by show (t.kids.map _).length < _; rw [List.length_map]; exact hw.len) hw.kindR hw.prioR hw.shiftR fun s hs => ?_
      obtain ⟨u, hu, rfl⟩ := List.mem_map.1 (show s ∈ t.kids.map _ from hs)
      exact ih u hu _ (hw.kid hu)
    · refine Wf.mk' hw.nameLen hw.labLen hw.labLens (by show (t.kids.map _).length < _; rw [List.length_map]; exact hw.len) hw.kindR hw.prioR hw.shiftR fun s hs => ?_
      obtain ⟨u, hu, rfl⟩ := List.mem_map.1 (show s ∈ t.kids.map _ from hs)
      exact ih u hu _ (hw.kid hu)

mutual
/-- the closed types of the nodes -/
def tysE (F : Env) : T → List T
  | .mk k p n s ls ks => if k = 8 then tys1 ((n, cloE F [] (.mk k p n s ls ks)) :: F) ks else if k = 9 then [] else cloE F [] (.mk k p n s ls ks) :: tysL F ks
def tys1 (F : Env) : List T → List T
  | [] => []
  | t :: _ => tysE F t
def tysL (F : Env) : List T → List T
  | [] => []
  | t :: l => tysE F t ++ tysL F l
end
theorem tys_eq (F : Env) (t : T) : tysE F t = if t.kind = 8 then tys1 ((t.name, cloE F [] t) :: F) t.kids else if t.kind = 9 then [] else cloE F [] t :: tysL F t.kids := by
  cases t; rw [tysE]; rfl
theorem tys_len (t : T) : ∀ F, Shp t → (tysE F t).length = cnt t := by
  induction t using T.ind with
  | h t ih =>
  intro F hs
  have hL : ∀ l : List T, (∀ s ∈ l, s ∈ t.kids) → (tysL F l).length = cntL l := by
    intro l
    induction l with
    | nil => intro _; rfl
    | cons x l ihl =>
      intro hx
      rw [tysL, List.length_append, cntL, ih x (hx x List.mem_cons_self) F (hs.kid x (hx x List.mem_cons_self)), ihl fun s h => hx s (List.mem_cons_of_mem _ h)]
  have hk := shape_kinds hs.sh
  rw [tys_eq, cnt_eq]
  by_cases h8 : t.kind = 8
  · obtain ⟨s, hks⟩ := hs.one h8
    have hm : s ∈ t.kids := by rw [hks]; exact List.mem_singleton.2 rfl
    rw [if_pos h8, hks, tys1, ih s hm _ (hs.kid s hm), cntL, cntL, if_neg (by omega)]; omega
  · rw [if_neg h8]
    by_cases h9 : t.kind = 9
    · rw [if_pos h9, (hs.var h9).1, cntL, if_neg (by omega)]; rfl
    · rw [if_neg h9, List.length_cons, hL _ (fun s h => h), if_pos (by omega)]; omega
theorem tysL_len (l : List T) (F : Env) (hs : ∀ s ∈ l, Shp s) : (tysL F l).length = cntL l := by
  induction l with
  | nil => rfl
  | cons x l ih => rw [tysL, List.length_append, cntL, tys_len x F (hs x List.mem_cons_self), ih fun s h => hs s (List.mem_cons_of_mem _ h)]

/-- what stands at a place -/
def Pl (ty : Nat → T) (a : Nat) (l : List T) : Prop := ∀ i c, l[i]? = some c → ty (a + i) = c
theorem Pl.left {ty : Nat → T} {a : Nat} {l m : List T} (h : Pl ty a (l ++ m)) : Pl ty a l := fun i c hc => h i c (by rw [List.getElem?_append_left (List.getElem?_eq_some_iff.1 hc).1]; exact hc)
theorem Pl.right {ty : Nat → T} {a : Nat} {l m : List T} (h : Pl ty a (l ++ m)) : Pl ty (a + l.length) m := fun i c hc => by
  rw [Nat.add_assoc]; exact h _ c (by rw [List.getElem?_append_right (by omega), Nat.add_sub_cancel_left]; exact hc)
theorem Pl.tail {ty : Nat → T} {a : Nat} {x : T} {l : List T} (h : Pl ty a (x :: l)) : Pl ty (a + 1) l := fun i c hc => by
  rw [Nat.add_assoc, Nat.add_comm 1]; exact h (i + 1) c hc

section
variable {ty : Nat → T}
/-- the head of a right type: where its reference leads, unfolding leads -/
theorem head_gp (t : T) : ∀ (names ext : List (List UInt8)) (refs : List Rf) (F G : Env) (g : Int) (a : Nat) (ses : Bool), Wf t → names.length + ext.length + t.size < 1000000000 → g ≤ names.length → nodeV t (names ++ ext) g ses = 0 → EnvOk ty names refs F →
    (∀ x, x ∉ ext → lookE G x = lookE F x) → (∀ y ∈ names ++ ext, ∃ d, lookE G y = some d) → (∀ y d, lookE G y = some d → Cl [] d ∧ Wf d) → Pl ty a (tysE G t) →
    Unf (cloE G [] t) ∧ unfoldE (cloE G [] t) = raiseE (refE t a names refs).shift (ty (refE t a names refs).node.toNat) := by
  induction t using T.ind with
  | h t ih =>
  intro names ext refs F G g a ses hw hs hg hz hE hG hG2 hG3 hP
  have hsz := T.size_eq t
  obtain ⟨hsh, o9, o8, o7⟩ := nodeV_out hw (by rw [List.length_append]; omega) hz
  have hk := shape_kinds hsh
  have hwc := clo_wf G (fun y d h => (hG3 y d h).2) t [] hw
  have hcc := clo_cl t (names ++ ext) [] G g ses hw (by rw [List.length_append]; omega) hz (fun y hy => by
    obtain ⟨d, hd⟩ := hG2 y hy
    exact .inr ⟨d, hd, (hG3 y d hd).1⟩)
  have hshp : Shp t := (node_zero t _ g ses hw (by rw [List.length_append]; omega) hz).1
  rw [refE_eq]
  by_cases h8 : t.kind = 8
  · obtain ⟨s, hks⟩ := hshp.one h8
    have hm : s ∈ t.kids := by rw [hks]; exact List.mem_singleton.2 rfl
    have hss := T.size_mem hm
    rw [if_pos h8, hks, refE1]
    rw [tys_eq, if_pos h8, hks, tys1] at hP
    have hz' := o8 h8 s hm
    rw [List.append_assoc] at hz'
    have hih := ih s hm names (ext ++ [t.name]) refs F ((t.name, cloE G [] t) :: G) g a true (hw.kid hm) (by rw [List.length_append, List.length_singleton]; omega) hg hz' hE (fun x hx => by
        rw [lookE, if_neg (fun e => hx (List.mem_append.2 (.inr (List.mem_singleton.2 e.symm))))]
        exact hG x fun h => hx (List.mem_append.2 (.inl h))) (fun y hy => by
        by_cases e : t.name = y
        · exact ⟨_, by rw [lookE, if_pos e]⟩
        · rw [lookE, if_neg e]
          rw [← List.append_assoc] at hy
          rcases List.mem_append.1 hy with hy | hy
          · exact hG2 y hy
          · exact absurd (List.mem_singleton.1 hy).symm e) (fun y d hd => by
        rw [lookE] at hd
        split at hd
        · injection hd with hd; subst hd; exact ⟨hcc, hwc⟩
        · exact hG3 y d hd) hP
    have e1 : (cloE G [] t).kind = 8 := by rw [clo_eq, if_neg (by omega), if_pos h8]; exact h8
    have e2 : (cloE G [] t).kids = [cloE G [t.name] s] := by rw [clo_eq, if_neg (by omega), if_pos h8]; show t.kids.map _ = _; rw [hks]; rfl
    have e3 : (cloE G [] t).name = t.name := by rw [clo_eq, if_neg (by omega), if_pos h8]; rfl
    have e4 : putE t.name (cloE G [] t) (cloE G [t.name] s) = cloE ((t.name, cloE G [] t) :: G) [] s :=
      put_clo t.name (cloE G [] t) G (fun y d h => (hG3 y d h).1) s [] (by simp) (fun h => ((hshp.kid s hm).var h).1) (fun _ _ => trivial) (hshp.kid s hm)
    rw [← e4] at hih
    have := Unf.step e1 e2 (by rw [e3]; exact hih.1)
    refine ⟨this.1, ?_⟩
    rw [this.2, e3]; exact hih.2
  · rw [if_neg h8]
    by_cases h9 : t.kind = 9
    · rw [if_pos h9]
      obtain ⟨hn, hx⟩ := find_split hg (o9 h9)
      obtain ⟨ρ, c, h1, h2, h3⟩ := hE.look t.name t.shift ⟨a, 0⟩ hn
      have e1 : cloE G [] t = raiseE t.shift c := by rw [clo_eq, if_pos h9, if_neg (by simp), hG _ hx, h2]
      have hr := h3.unf.raise t.shift
      rw [e1, h1]
      refine ⟨hr.1, ?_⟩
      rw [hr.2, h3.eq, raise_raise]
    · rw [if_neg h9]
      rw [tys_eq, if_neg h8, if_neg h9] at hP
      have e1 := hP 0 _ rfl
      have e2 : (cloE G [] t).kind = t.kind := by rw [clo_eq, if_neg h9, if_neg h8]; rfl
      have := Unf.stay (t := cloE G [] t) (by rw [e2]; exact h8)
      refine ⟨this.1, ?_⟩
      rw [this.2]
      show _ = raiseE 0 (ty (a : Int).toNat)
      rw [Int.toNat_natCast, show ty a = _ from e1, raise_zero _ hwc]

/-- a node and the closed type that it stands for -/
structure NT (ty : Nat → T) (x : Nd) (c : T) : Prop where
  kind : c.kind = x.kind
  prio : c.prio = x.prio
  labels : c.labels = x.labels
  len : c.kids.length = x.next.length
  wf : Wf c
  low : c.kind ≤ 7
  cl : Cl [] c
  kids : ∀ (k : Nat) (r : Rf) (s : T), x.next[k]? = some r → c.kids[k]? = some s → GP ty r s

theorem env_gp {t : T} {names : List (List UInt8)} {refs : List Rf} {F : Env} {g : Int} {a : Nat} {ses : Bool} (hw : Wf t) (hs : names.length + t.size < 1000000000) (hg : g ≤ names.length) (hz : nodeV t names g ses = 0) (hE : EnvOk ty names refs F)
    (hP : Pl ty a (tysE F t)) : GP ty (refE t a names refs) (cloE F [] t) := by
  have hl : ∀ y ∈ names, ∃ d, lookE F y = some d := fun y hy => by
    obtain ⟨ρ, c, _, h2, _⟩ := hE.look y 0 default hy
    exact ⟨c, h2⟩
  obtain ⟨h1, h2⟩ := head_gp (ty := ty) t names [] refs F F g a ses hw (by rw [List.length_nil]; omega) hg (by rw [List.append_nil]; exact hz) hE (fun _ _ => rfl) (by rw [List.append_nil]; exact hl) hE.cl hP
  exact ⟨clo_cl t names [] F g ses hw hs hz (fun y hy => by obtain ⟨d, hd⟩ := hl y hy; exact .inr ⟨d, hd, (hE.cl y d hd).1⟩), clo_wf F (fun y d h => (hE.cl y d h).2) t [] hw, h1, h2⟩

theorem nodes_nt (t : T) : ∀ (names : List (List UInt8)) (refs : List Rf) (F : Env) (g : Int) (a : Nat) (ses : Bool), Wf t → names.length + t.size < 1000000000 → g ≤ names.length → nodeV t names g ses = 0 → EnvOk ty names refs F → Pl ty a (tysE F t) →
    ∀ i x, (nodesE t a names refs)[i]? = some x → NT ty x (ty (a + i)) := by
  induction t using T.ind with
  | h t ih =>
  intro names refs F g a ses hw hs hg hz hE hP i x hx
  have hsz := T.size_eq t
  obtain ⟨hsh, o9, o8, o7⟩ := nodeV_out hw hs hz
  have hk := shape_kinds hsh
  have hshp : Shp t := (node_zero t _ g ses hw hs hz).1
  have hl : ∀ y ∈ names, ∃ d, lookE F y = some d := fun y hy => by
    obtain ⟨ρ, c, _, h2, _⟩ := hE.look y 0 default hy
    exact ⟨c, h2⟩
  have hcc := clo_cl t names [] F g ses hw hs hz (fun y hy => by obtain ⟨d, hd⟩ := hl y hy; exact .inr ⟨d, hd, (hE.cl y d hd).1⟩)
  have hwc := clo_wf F (fun y d h => (hE.cl y d h).2) t [] hw
  rw [nodesE_eq] at hx
  by_cases h8 : t.kind = 8
  · obtain ⟨s, hks⟩ := hshp.one h8
    have hm : s ∈ t.kids := by rw [hks]; exact List.mem_singleton.2 rfl
    have hss := T.size_mem hm
    have hgp := env_gp (g := g) (ses := ses) hw hs hg hz hE hP
    rw [if_pos h8, hks, nodes1] at hx
    rw [tys_eq, if_pos h8, hks, tys1] at hP
    exact ih s hm (names ++ [t.name]) _ _ g a true (hw.kid hm) (by rw [List.length_append, List.length_singleton]; omega) (by rw [List.length_append, List.length_singleton]; omega) (o8 h8 s hm) (.snoc _ _ _ _ _ _ hE hgp) hP i x hx
  · rw [if_neg h8] at hx
    by_cases h9 : t.kind = 9
    · rw [if_pos h9] at hx; cases hx
    · rw [if_neg h9] at hx
      rw [tys_eq, if_neg h8, if_neg h9] at hP
      have o7' := o7 (by omega)
      have e0 := hP 0 _ rfl
      have hPt := hP.tail
      have ec : cloE F [] t = T.mk t.kind t.prio t.name t.shift t.labels (t.kids.map (cloE F [])) := by rw [clo_eq, if_neg h9, if_neg h8]
      have hN : ∀ (l : List T) (a : Nat), (∀ s ∈ l, s ∈ t.kids) → Pl ty a (tysL F l) → ∀ (k : Nat) (r : Rf) (s : T), (nextsL l a names refs)[k]? = some r → (l.map (cloE F []))[k]? = some s → GP ty r s := by
        intro l
        induction l with
        | nil => intro _ _ _ k r s hr _; cases hr
        | cons y l ihl =>
          intro a hy hp k r s hr hc
          have hym := hy y List.mem_cons_self
          obtain ⟨b', hb'⟩ := o7' y hym
          rw [tysL] at hp
          cases k with
          | zero =>
            injection hr with hr; injection hc with hc
            subst hr; subst hc
            exact env_gp (g := names.length) (hw.kid hym) (by have := T.size_mem hym; omega) (Int.le_refl _) hb' hE hp.left
          | succ k =>
            have hpr := hp.right
            rw [tys_len y F (hshp.kid y hym)] at hpr
            have hr' : (nextsL l ((a + cnt y : Nat) : Int) names refs)[k]? = some r := by
              rw [show ((a + cnt y : Nat) : Int) = (a : Int) + (cnt y : Int) from by omega]; exact hr
            exact ihl (a + cnt y) (fun s h => hy s (List.mem_cons_of_mem _ h)) hpr k r s hr' hc
      have hL : ∀ (l : List T) (a : Nat), (∀ s ∈ l, s ∈ t.kids) → Pl ty a (tysL F l) → ∀ (i : Nat) (x : Nd), (nodesL l a names refs)[i]? = some x → NT ty x (ty (a + i)) := by
        intro l
        induction l with
        | nil => intro _ _ _ i x hx; cases hx
        | cons y l ihl =>
          intro a hy hp i x hx
          have hym := hy y List.mem_cons_self
          obtain ⟨b', hb'⟩ := o7' y hym
          rw [tysL] at hp
          rw [nodesL] at hx
          have hlen := nodesE_len y a names refs (hshp.kid y hym)
          by_cases hi : i < cnt y
          · rw [List.getElem?_append_left (by omega)] at hx
            exact ih y hym names refs F names.length a b' (hw.kid hym) (by have := T.size_mem hym; omega) (Int.le_refl _) hb' hE hp.left i x hx
          · rw [List.getElem?_append_right (by omega), hlen] at hx
            have hpr := hp.right
            rw [tys_len y F (hshp.kid y hym)] at hpr
            have hx' : (nodesL l ((a + cnt y : Nat) : Int) names refs)[i - cnt y]? = some x := by
              rw [show ((a + cnt y : Nat) : Int) = (a : Int) + (cnt y : Int) from by omega]; exact hx
            have := ihl (a + cnt y) (fun s h => hy s (List.mem_cons_of_mem _ h)) hpr (i - cnt y) x hx'
            rw [show a + cnt y + (i - cnt y) = a + i by omega] at this
            exact this
      have ea : ((a : Int) + 1) = ((a + 1 : Nat) : Int) := by omega
      rw [ea] at hx
      cases i with
      | zero =>
        injection hx with hx
        subst hx
        rw [show ty (a + 0) = _ from e0]
        refine ⟨by rw [ec]; rfl, by rw [ec]; rfl, by rw [ec]; rfl, ?_, hwc, by rw [ec]; show t.kind ≤ 7; omega, hcc, ?_⟩
        · rw [ec]; show (t.kids.map _).length = (nextsL t.kids _ names refs).length; rw [List.length_map, nextsL_len]
        · rw [ec]; exact hN t.kids (a + 1) (fun s h => h) hPt
      | succ i =>
        have := hL t.kids (a + 1) (fun s h => h) hPt i x hx
        rw [show a + 1 + i = a + (i + 1) by omega] at this
        exact this
end
/-- a graph, the closed types of its nodes, and types with their references -/
structure GT (N : List Nd) (ty : Nat → T) (l : List T) (R : List Rf) : Prop where
  node : ∀ (i : Nat) (x : Nd), N[i]? = some x → NT ty x (ty i)
  len : R.length = l.length
  ref : ∀ (k : Nat) (r : Rf) (t : T), R[k]? = some r → l[k]? = some t → GP ty r t
theorem clo_nil (t : T) : ∀ B, Wf t → cloE [] B t = t := by
  induction t using T.ind with
  | h t ih =>
  intro B hw
  have hk : ∀ B, t.kids.map (cloE [] B) = t.kids := fun B => by
    have : t.kids.map (cloE [] B) = t.kids.map id := List.map_congr_left fun s hs => ih s hs B (hw.kid hs)
    rw [this, List.map_id]
  rw [clo_eq, hk, hk]
  split
  · split <;> rfl
  · split <;> exact T.eta t
theorem graph_gtR (l : List T) (hs : ∀ t ∈ l, Rgt t) : ∃ ty, GT (nodesL l 0 [] []) ty l (nextsL l 0 [] []) := by
  refine ⟨fun i => ((tysL [] l)[i]?).getD default, ?_, ?_, ?_⟩
  · have key : ∀ (k : List T) (ty : Nat → T) (a : Nat), (∀ t ∈ k, Rgt t) → Pl ty a (tysL [] k) → ∀ (i : Nat) (x : Nd), (nodesL k a [] [])[i]? = some x → NT ty x (ty (a + i)) := by
      intro k ty
      induction k with
      | nil => intro _ _ _ i x hx; cases hx
      | cons y k ih =>
        intro a hs hp i x hx
        have hrg := hs y List.mem_cons_self
        have hym := hrg.wf
        have hshp := hrg.shp
        have hsz := hrg.sz
        have hz := hrg.node
        rw [tysL] at hp
        rw [nodesL] at hx
        have hlen := nodesE_len y a [] [] hshp
        by_cases hi : i < cnt y
        · rw [List.getElem?_append_left (by omega)] at hx
          exact nodes_nt y [] [] [] 0 a false hym (by rw [List.length_nil]; omega) (by simp) hz .nil hp.left i x hx
        · rw [List.getElem?_append_right (by omega), hlen] at hx
          have hpr := hp.right
          rw [tys_len y [] hshp] at hpr
          have hx' : (nodesL k ((a + cnt y : Nat) : Int) [] [])[i - cnt y]? = some x := by
            rw [show ((a + cnt y : Nat) : Int) = (a : Int) + (cnt y : Int) from by omega]; exact hx
          have := ih (a + cnt y) (fun t h => hs t (List.mem_cons_of_mem _ h)) hpr (i - cnt y) x hx'
          rw [show a + cnt y + (i - cnt y) = a + i by omega] at this
          exact this
    intro i x hx
    have := key l (fun i => ((tysL [] l)[i]?).getD default) 0 hs (fun j c hc => by show ((tysL [] l)[0 + j]?).getD default = c; rw [Nat.zero_add, hc]; rfl) i x hx
    rw [Nat.zero_add] at this
    exact this
  · rw [nextsL_len]
  · have key : ∀ (k : List T) (ty : Nat → T) (a : Nat), (∀ t ∈ k, Rgt t) → Pl ty a (tysL [] k) → ∀ (i : Nat) (r : Rf) (t : T), (nextsL k a [] [])[i]? = some r → k[i]? = some t → GP ty r t := by
      intro k ty
      induction k with
      | nil => intro _ _ _ i r t hx _; cases hx
      | cons y k ih =>
        intro a hs hp i r t hr ht
        have hrg := hs y List.mem_cons_self
        have hym := hrg.wf
        have hshp := hrg.shp
        have hsz := hrg.sz
        have hz := hrg.node
        rw [tysL] at hp
        cases i with
        | zero =>
          injection hr with hr; injection ht with ht
          subst hr; subst ht
          have := env_gp (ty := ty) (g := 0) hym (by rw [List.length_nil]; omega) (by simp) hz .nil hp.left
          rw [clo_nil _ _ hym] at this
          exact this
        | succ i =>
          have hpr := hp.right
          rw [tys_len y [] hshp] at hpr
          have hr' : (nextsL k ((a + cnt y : Nat) : Int) [] [])[i]? = some r := by
            rw [show ((a + cnt y : Nat) : Int) = (a : Int) + (cnt y : Int) from by omega]; exact hr
          exact ih (a + cnt y) (fun t h => hs t (List.mem_cons_of_mem _ h)) hpr i r t hr' ht
    exact key l (fun i => ((tysL [] l)[i]?).getD default) 0 hs (fun j c hc => by show ((tysL [] l)[0 + j]?).getD default = c; rw [Nat.zero_add, hc]; rfl)
theorem graph_gt (l : List T) (m : Int) (hm : m < 1000000) (hw : ∀ t ∈ l, Wf t) (hs : ∀ t ∈ l, smallB t m = true) : ∃ ty, GT (nodesL l 0 [] []) ty l (nextsL l 0 [] []) :=
  graph_gtR l fun t ht => small_rgt (hw t ht) hm (hs t ht)
end Go.Proofs.YtijfioakpngdhaaDoor
