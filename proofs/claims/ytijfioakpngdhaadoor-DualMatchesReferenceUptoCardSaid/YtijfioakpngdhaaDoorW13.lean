/- The law DualMatchesReference: the reference's closed graph, and graphs that are the same. -/
import Derived.Test.YtijfioakpngdhaaDoorMF
namespace Go.Proofs.YtijfioakpngdhaaDoor
open Go.V
set_option maxRecDepth 100000
set_option linter.unusedSimpArgs false
set_option linter.unusedVariables false

theorem kindR_run (n : Int) : RW 18 [.d (.int .i64 n)] [] = some (.d (.int .i64 (kindD n)), []) := by
  refine runW_fn rfl rfl ?_
  unfold runFn c18 kindD
  by_cases h4 : n = 4
  · rw [if_pos h4]; simp only [go_sem, decide_eq_true h4]
  · rw [if_neg h4]
    by_cases h5 : n = 5
    · rw [if_pos h5]; simp only [go_sem, decide_eq_false h4, decide_eq_true h5]
    · rw [if_neg h5]
      by_cases h6 : n = 6
      · rw [if_pos h6]; simp only [go_sem, decide_eq_false h4, decide_eq_false h5, decide_eq_true h6]
      · rw [if_neg h6]
        by_cases h7 : n = 7
        · rw [if_pos h7]; simp only [go_sem, decide_eq_false h4, decide_eq_false h5, decide_eq_false h6, decide_eq_true h7]
        · rw [if_neg h7]; simp only [go_sem, decide_eq_false h4, decide_eq_false h5, decide_eq_false h6, decide_eq_false h7]

/-- what the reference's closed graph does with a reference -/
def upC (k n : Int) (j : Nat) (r : Rf) : Rf := if (j : Int) = 1 ∨ 6 ≤ k then ⟨r.node + n, r.shift⟩ else r
def upCL (k n : Int) (l : List Rf) : List Rf := l.mapIdx (upC k n)
def dualC (n : Int) (x : Nd) : Nd := ⟨kindD x.kind, x.prio, x.labels, upCL x.kind n x.next⟩
theorem upCL_take (k n : Int) (l : List Rf) (i : Nat) (hi : i < l.length) : upCL k n (l.take (i + 1)) = upCL k n (l.take i) ++ [upC k n i l[i]] := by
  unfold upCL
  rw [List.take_succ_eq_append_getElem hi, List.mapIdx_append]
  congr 1
  simp [List.length_take, Nat.min_eq_left (Nat.le_of_lt hi)]
def cfI (N : List Nd) (i : Nat) : St := ⟨[(0, .d (.sl 4 (N.map Nd.data))), (3, .own 0), (4, .d (.int .i64 i))],
  [(0, some (.arr 4 ((N ++ (N.take i).map (dualC N.length)).map Nd.data) true))], 1, 0, false⟩
def cfJ (N : List Nd) (i : Nat) (x : Nd) (j : Nat) : St := ⟨[(0, .d (.sl 4 (N.map Nd.data))), (3, .own 0), (4, .d (.int .i64 i)), (5, .ptr 1 0), (6, .d (.int .i64 j))],
  [(0, some (.arr 4 ((N ++ (N.take i).map (dualC N.length)).map Nd.data) true)), (1, some (.box [.d (.int .i64 (kindD x.kind)), .d (.int .i64 x.prio), .d (.sl 1 (x.labels.map .str)), .own 2])),
   (2, some (.arr 2 ((upCL x.kind N.length (x.next.take j)).map Rf.data) true))], 3, 0, false⟩
theorem cf_inner (N : List Nd) (h : NdOk N) (i : Nat) (x : Nd) (hn : N[i]? = some x) (j : Nat) (hj : j < x.next.length) :
    ∃ s, exec att RW LW c16_l0 (cfJ N i x j) = some (.normal, s) ∧ norm [0, 3, 4, 5, 6] s = cfJ N i x (j + 1) := by
  have hm : x ∈ N := List.mem_of_getElem? hn
  have hlen := h.len
  have hll := (h.lists x hm).2
  have hrr := h.refs x hm x.next[j] (List.getElem_mem hj)
  have hj' : (j : Int) < x.next.length := by omega
  have hk : x.next[j]? = some x.next[j] := List.getElem?_eq_getElem hj
  have hnd : x.data = .agg [.int .i64 x.kind, .int .i64 x.prio, .sl 1 (x.labels.map .str), .sl 2 (x.next.map Rf.data)] := rfl
  have hlt : (upCL x.kind N.length (x.next.take j)).length = j := by unfold upCL; rw [List.length_mapIdx, List.length_take]; omega
  have e1 : (upCL x.kind N.length (x.next.take (j + 1))).map Rf.data = (upCL x.kind N.length (x.next.take j)).map Rf.data ++ [(upC x.kind N.length j x.next[j]).data] := by
    rw [upCL_take x.kind N.length x.next j hj, List.map_append]; rfl
  generalize hrf : x.next[j] = rf at hk hrr e1
  have hrd : rf.data = .agg [.int .i64 rf.node, .int .i64 rf.shift] := rfl
  have hb1 : decide ((j + 1) * 16 ≤ 140737488355328) = true := by simp; omega
  by_cases h1 : (j : Int) = 1
  · have hu : upC x.kind N.length j rf = ⟨rf.node + N.length, rf.shift⟩ := by unfold upC; rw [if_pos (.inl h1)]
    rw [hu] at e1
    have e2 : (Rf.mk (rf.node + N.length) rf.shift).data = .agg [.int .i64 (rf.node + N.length), .int .i64 rf.shift] := rfl
    rw [e2] at e1
    refine ⟨?sx, ?g1, ?g2⟩
    case g1 =>
      unfold c16_l0 cfJ
      simp only [go_sem, hj', hn, hnd, hk, hrd, hlt, hb1, decide_eq_true h1]
      rfl
    case g2 =>
      rw [wrap64 (by omega) (by omega), wrap64 (by omega) (by omega)]
      unfold cfJ
      rw [e1]
      show _ = _
      kernel_rfl
  · by_cases h6 : 6 ≤ x.kind
    · have hu : upC x.kind N.length j rf = ⟨rf.node + N.length, rf.shift⟩ := by unfold upC; rw [if_pos (.inr h6)]
      rw [hu] at e1
      have e2 : (Rf.mk (rf.node + N.length) rf.shift).data = .agg [.int .i64 (rf.node + N.length), .int .i64 rf.shift] := rfl
      rw [e2] at e1
      refine ⟨?sy, ?g3, ?g4⟩
      case g3 =>
        unfold c16_l0 cfJ
        simp only [go_sem, hj', hn, hnd, hk, hrd, hlt, hb1, decide_eq_false h1, decide_eq_true h6]
        rfl
      case g4 =>
        rw [wrap64 (by omega) (by omega), wrap64 (by omega) (by omega)]
        unfold cfJ
        rw [e1]
        show _ = _
        kernel_rfl
    · have hu : upC x.kind N.length j rf = rf := by unfold upC; rw [if_neg (by omega)]
      rw [hu, hrd] at e1
      refine ⟨?sz, ?g5, ?g6⟩
      case g5 =>
        unfold c16_l0 cfJ
        simp only [go_sem, hj', hn, hnd, hk, hrd, hlt, hb1, decide_eq_false h1, decide_eq_false h6]
        rfl
      case g6 =>
        rw [wrap64 (by omega) (by omega)]
        unfold cfJ
        rw [e1]
        show _ = _
        kernel_rfl
theorem cf_outer (N : List Nd) (h : NdOk N) (i : Nat) (hi : i < N.length) : ∃ s, exec att RW LW c16_l1 (cfI N i) = some (.normal, s) ∧ norm [0, 3, 4] s = cfI N (i + 1) := by
  have hlen := h.len
  have hi' : (i : Int) < N.length := by omega
  have hn : N[i]? = some N[i] := List.getElem?_eq_getElem hi
  have hll := h.lists N[i] (List.getElem_mem hi)
  have hkk := kindR_run N[i].kind
  have e1 : (N ++ (N.take (i + 1)).map (dualC N.length)).map Nd.data = (N ++ (N.take i).map (dualC N.length)).map Nd.data ++ [(dualC N.length N[i]).data] := by
    rw [List.take_succ_eq_append_getElem hi, List.map_append, List.map_append, List.map_append, List.map_append, List.append_assoc]; rfl
  have hlt : (N ++ (N.take i).map (dualC N.length)).length = N.length + i := by rw [List.length_append, List.length_map, List.length_take]; omega
  generalize hx : N[i] = x at hn hll hkk e1
  have hnd : x.data = .agg [.int .i64 x.kind, .int .i64 x.prio, .sl 1 (x.labels.map .str), .sl 2 (x.next.map Rf.data)] := rfl
  have hne : (dualC N.length x).data = .agg [.int .i64 (kindD x.kind), .int .i64 x.prio, .sl 1 (x.labels.map .str), .sl 2 ((upCL x.kind N.length x.next).map Rf.data)] := rfl
  rw [hne] at e1
  have hb2 : decide ((N.length + i + 1) * 64 ≤ 140737488355328) = true := by simp; omega
  refine ⟨?sx, ?g1, ?g2⟩
  case g1 =>
    unfold c16_l1 cfI
    simp only [go_sem, hi', hn, hnd, hkk]
    refine obind_mk (a := ?e2) (Eq.trans (by kernel_rfl) (loop_from0 (vf := vf) (att := att) (ext := ext) (keep := [0, 3, 4, 5, 6]) (c := c16_l0) (I := cfJ N i x) (n := x.next.length) ?hs2 ?he2 ?hn2)) ?rest2
    case hs2 => exact fun j hj => cf_inner N h i x hn j hj
    case he2 =>
      unfold c16_l0 cfJ
      simp only [go_sem, hn, hnd, List.take_length]
      rfl
    case hn2 => intro h; cases h
    case rest2 =>
      simp only [go_sem, hlt, hb2]
      rfl
  case g2 =>
    rw [wrap64 (by omega) (by omega)]
    unfold cfI
    rw [e1]
    show _ = _
    kernel_rfl
def closeC (N : List Nd) : List Nd := N ++ N.map (dualC N.length)
theorem closeC_run (N : List Nd) (h : NdOk N) : RW 16 [.d (.sl 4 (N.map Nd.data))] [] = some (.own 0, [(0, some (.arr 4 ((closeC N).map Nd.data) true))]) := by
  have hlen := h.len
  have hb : decide (N.length * 64 ≤ 140737488355328) = true := by simp; omega
  have hz := sizes_nd N
  have e0 : cfI N 0 = ⟨[(0, .d (.sl 4 (N.map Nd.data))), (3, .own 0), (4, .d (.int .i64 0))], [(0, some (.arr 4 (N.map Nd.data) true))], 1, 0, false⟩ := by
    unfold cfI; rw [List.take_zero, List.map_nil, List.append_nil]; rfl
  refine runW_fn rfl rfl ?_
  unfold runFn c16
  simp only [go_sem, hb, hz]
  refine obind_mk (a := ?e) (Eq.trans (Eq.trans (by kernel_rfl) (congrArg (LW [0, 3, 4] c16_l1) e0).symm) (loop_from0 (vf := vf) (att := att) (ext := ext) (keep := [0, 3, 4]) (c := c16_l1) (I := cfI N) (n := N.length) ?hs ?he ?hn)) ?rest
  case hs => exact fun i hi => cf_outer N h i hi
  case he =>
    unfold c16_l1 cfI
    simp only [go_sem, List.take_length]
    rfl
  case hn => intro h; cases h
  case rest =>
    simp only [go_sem]
    show _ = _
    kernel_rfl

/-! ### the same texts, the same graph -/
def txI (l : List (List UInt8)) (i : Nat) : St := ⟨[(0, .d (.sl 1 (l.map .str))), (1, .d (.sl 1 (l.map .str))), (5, .d (.int .i64 i))], [], 0, 0, false⟩
theorem texts_run (l : List (List UInt8)) (hl : l.length < 1000000000) : RW 34 [.d (.sl 1 (l.map .str)), .d (.sl 1 (l.map .str))] [] = some (.d (.bool true), []) := by
  refine runW_fn rfl rfl ?_
  unfold runFn c34
  simp only [go_sem]
  refine obind_mk (a := ?e) (Eq.trans (by kernel_rfl) (loop_from0 (vf := vf) (att := att) (ext := ext) (keep := [0, 1, 5]) (c := c34_l0) (I := txI l) (n := l.length) ?hs ?he ?hn)) ?rest
  case hs =>
    intro i hi
    have hi' : (i : Int) < l.length := by omega
    have hk : l[i]? = some l[i] := List.getElem?_eq_getElem hi
    refine ⟨?sx, ?g1, ?g2⟩
    case g1 =>
      unfold c34_l0 txI
      simp only [go_sem, hi', hk]
      rfl
    case g2 =>
      rw [wrap64 (by omega) (by omega)]
      unfold txI
      show _ = _
      kernel_rfl
  case he =>
    unfold c34_l0 txI
    simp only [go_sem]
    rfl
  case hn => intro h; cases h
  case rest => simp only [go_sem]

def saI (N : List Nd) (i : Nat) : St := ⟨[(1, .d (.sl 4 (N.map Nd.data))), (2, .ptr 0 0), (5, .d (.int .i64 i))], [(0, some (.box [.d (.sl 4 (N.map Nd.data))]))], 1, 0, false⟩
def saJ (N : List Nd) (i : Nat) (x : Nd) (j : Nat) : St := ⟨[(1, .d (.sl 4 (N.map Nd.data))), (2, .ptr 0 0), (5, .d (.int .i64 i)), (6, .ptr 1 0), (7, .d (.int .i64 j))],
  [(0, some (.box [.d (.sl 4 (N.map Nd.data))])), (1, some (.box [.d (.int .i64 x.kind), .d (.int .i64 x.prio), .d (.sl 1 (x.labels.map .str)), .d (.sl 2 (x.next.map Rf.data))]))], 2, 0, false⟩
theorem sa_inner (N : List Nd) (i : Nat) (x : Nd) (hn : N[i]? = some x) (hl : x.next.length < 1000000000) (j : Nat) (hj : j < x.next.length) :
    ∃ s, exec att RW LW c14_l0 (saJ N i x j) = some (.normal, s) ∧ norm [1, 2, 5, 6, 7] s = saJ N i x (j + 1) := by
  have hj' : (j : Int) < x.next.length := by omega
  have hk : x.next[j]? = some x.next[j] := List.getElem?_eq_getElem hj
  have hnd : x.data = .agg [.int .i64 x.kind, .int .i64 x.prio, .sl 1 (x.labels.map .str), .sl 2 (x.next.map Rf.data)] := rfl
  generalize hrf : x.next[j] = rf at hk
  have hrd : rf.data = .agg [.int .i64 rf.node, .int .i64 rf.shift] := rfl
  refine ⟨?sx, ?g1, ?g2⟩
  case g1 =>
    unfold c14_l0 saJ
    simp only [go_sem, hj', hn, hnd, hk, hrd]
    rfl
  case g2 =>
    rw [wrap64 (by omega) (by omega)]
    unfold saJ
    show _ = _
    kernel_rfl
theorem sa_outer (N : List Nd) (hN : N.length < 10000000000) (hl : ∀ x ∈ N, x.labels.length < 1000000000 ∧ x.next.length < 1000000000) (i : Nat) (hi : i < N.length) :
    ∃ s, exec att RW LW c14_l1 (saI N i) = some (.normal, s) ∧ norm [1, 2, 5] s = saI N (i + 1) := by
  have hi' : (i : Int) < N.length := by omega
  have hn : N[i]? = some N[i] := List.getElem?_eq_getElem hi
  have hll := hl N[i] (List.getElem_mem hi)
  generalize hx : N[i] = x at hn hll
  have hnd : x.data = .agg [.int .i64 x.kind, .int .i64 x.prio, .sl 1 (x.labels.map .str), .sl 2 (x.next.map Rf.data)] := rfl
  have ht := texts_run x.labels hll.1
  refine ⟨?sx, ?g1, ?g2⟩
  case g1 =>
    unfold c14_l1 saI
    simp only [go_sem, hi', hn, hnd, ht]
    refine obind_mk (a := ?e2) (Eq.trans (by kernel_rfl) (loop_from0 (vf := vf) (att := att) (ext := ext) (keep := [1, 2, 5, 6, 7]) (c := c14_l0) (I := saJ N i x) (n := x.next.length) ?hs2 ?he2 ?hn2)) ?rest2
    case hs2 => exact fun j hj => sa_inner N i x hn hll.2 j hj
    case he2 =>
      unfold c14_l0 saJ
      simp only [go_sem]
      rfl
    case hn2 => intro h; cases h
    case rest2 =>
      simp only [go_sem]
      rfl
  case g2 =>
    rw [wrap64 (by omega) (by omega)]
    unfold saI
    show _ = _
    kernel_rfl
theorem same_run (N : List Nd) (hN : N.length < 10000000000) (hl : ∀ x ∈ N, x.labels.length < 1000000000 ∧ x.next.length < 1000000000) :
    RW 14 [.d (.agg [.sl 4 (N.map Nd.data)]), .d (.sl 4 (N.map Nd.data))] [] = some (.d (.bool true), []) := by
  refine runW_fn rfl rfl ?_
  unfold runFn c14
  simp only [go_sem]
  refine obind_mk (a := ?e) (Eq.trans (by kernel_rfl) (loop_from0 (vf := vf) (att := att) (ext := ext) (keep := [1, 2, 5]) (c := c14_l1) (I := saI N) (n := N.length) ?hs ?he ?hn)) ?rest
  case hs => exact fun i hi => sa_outer N hN hl i hi
  case he =>
    unfold c14_l1 saI
    simp only [go_sem]
    rfl
  case hn => intro h; cases h
  case rest => simp only [go_sem]
end Go.Proofs.YtijfioakpngdhaaDoor
