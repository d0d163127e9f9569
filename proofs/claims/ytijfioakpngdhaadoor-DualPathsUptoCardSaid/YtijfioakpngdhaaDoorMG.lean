/- The law DualMatchesReference: the reference's closed graph, and graphs that are the same. -/
import Derived.Test.YtijfioakpngdhaaDoorMF
namespace Go.Proofs.YtijfioakpngdhaaDoor
open Go.V
set_option maxRecDepth 100000
set_option linter.unusedSimpArgs false
set_option linter.unusedVariables false

theorem kindR_run (n : Int) : RW 18 [.d (.int .i64 n)] [] = some (.d (.int .i64 (kindD n)), []) := by
  refine runW_fn rfl rfl ?_
  unfold runFn c18 kindD
  by_cases h4 : n = 4
  · rw [if_pos h4]; simp only [go_sem, decide_eq_true h4]
  · rw [if_neg h4]
    by_cases h5 : n = 5
    · rw [if_pos h5]; simp only [go_sem, decide_eq_false h4, decide_eq_true h5]
    · rw [if_neg h5]
      by_cases h6 : n = 6
      · rw [if_pos h6]; simp only [go_sem, decide_eq_false h4, decide_eq_false h5, decide_eq_true h6]
      · rw [if_neg h6]
        by_cases h7 : n = 7
        · rw [if_pos h7]; simp only [go_sem, decide_eq_false h4, decide_eq_false h5, decide_eq_false h6, decide_eq_true h7]
        · rw [if_neg h7]; simp only [go_sem, decide_eq_false h4, decide_eq_false h5, decide_eq_false h6, decide_eq_false h7]

/-- what the reference's closed graph does with a reference -/
def upC (k n : Int) (j : Nat) (r : Rf) : Rf := if (j : Int) = 1 ∨ 6 ≤ k then ⟨r.node + n, r.shift⟩ else r
def upCL (k n : Int) (l : List Rf) : List Rf := l.mapIdx (upC k n)
def dualC (n : Int) (x : Nd) : Nd := ⟨kindD x.kind, x.prio, x.labels, upCL x.kind n x.next⟩
theorem upCL_take (k n : Int) (l : List Rf) (i : Nat) (hi : i < l.length) : upCL k n (l.take (i + 1)) = upCL k n (l.take i) ++ [upC k n i l[i]] := by
  unfold upCL
  rw [List.take_succ_eq_append_getElem hi, List.mapIdx_append]
  congr 1
  simp [List.length_take, Nat.min_eq_left (Nat.le_of_lt hi)]
def cfI (N : List Nd) (i : Nat) : St := ⟨[(0, .d (.sl 4 (N.map Nd.data))), (3, .own 0), (4, .d (.int .i64 i))],
  [(0, some (.arr 4 ((N ++ (N.take i).map (dualC N.length)).map Nd.data) true))], 1, 0, false⟩
def cfJ (N : List Nd) (i : Nat) (x : Nd) (j : Nat) : St := ⟨[(0, .d (.sl 4 (N.map Nd.data))), (3, .own 0), (4, .d (.int .i64 i)), (5, .ptr 1 0), (6, .d (.int .i64 j))],
  [(0, some (.arr 4 ((N ++ (N.take i).map (dualC N.length)).map Nd.data) true)), (1, some (.box [.d (.int .i64 (kindD x.kind)), .d (.int .i64 x.prio), .d (.sl 1 (x.labels.map .str)), .own 2])),
   (2, some (.arr 2 ((upCL x.kind N.length (x.next.take j)).map Rf.data) true))], 3, 0, false⟩
theorem cf_inner (N : List Nd) (h : NdOk N) (i : Nat) (x : Nd) (hn : N[i]? = some x) (j : Nat) (hj : j < x.next.length) :
    ∃ s, exec att RW LW c16_l0 (cfJ N i x j) = some (.normal, s) ∧ norm [0, 3, 4, 5, 6] s = cfJ N i x (j + 1) := by
  have hm : x ∈ N := List.mem_of_getElem? hn
  have hlen := h.len
  have hll := (h.lists x hm).2
  have hrr := h.refs x hm x.next[j] (List.getElem_mem hj)
  have hj' : (j : Int) < x.next.length := by omega
  have hk : x.next[j]? = some x.next[j] := List.getElem?_eq_getElem hj
  have hnd : x.data = .agg [.int .i64 x.kind, .int .i64 x.prio, .sl 1 (x.labels.map .str), .sl 2 (x.next.map Rf.data)] := rfl
  have hlt : (upCL x.kind N.length (x.next.take j)).length = j := by unfold upCL; rw [List.length_mapIdx, List.length_take]; omega
  have e1 : (upCL x.kind N.length (x.next.take (j + 1))).map Rf.data = (upCL x.kind N.length (x.next.take j)).map Rf.data ++ [(upC x.kind N.length j x.next[j]).data] := by
    rw [upCL_take x.kind N.length x.next j hj, List.map_append]; rfl
  generalize hrf : x.next[j] = rf at hk hrr e1
  have hrd : rf.data = .agg [.int .i64 rf.node, .int .i64 rf.shift] := rfl
  have hb1 : decide ((j + 1) * 16 ≤ 140737488355328) = true := by simp; omega
  by_cases h1 : (j : Int) = 1
  · have hu : upC x.kind N.length j rf = ⟨rf.node + N.length, rf.shift⟩ := by unfold upC; rw [if_pos (.inl h1)]
    rw [hu] at e1
    have e2 : (Rf.mk (rf.node + N.length) rf.shift).data = .agg [.int .i64 (rf.node + N.length), .int .i64 rf.shift] := rfl
    rw [e2] at e1
    refine ⟨?sx, ?g1, ?g2⟩
    case g1 =>
      unfold c16_l0 cfJ
      simp only [go_sem, hj', hn, hnd, hk, hrd, hlt, hb1, decide_eq_true h1]
      rfl
    case g2 =>
      rw [wrap64 (by omega) (by omega), wrap64 (by omega) (by omega)]
      unfold cfJ
      rw [e1]
      show _ = _
      kernel_rfl
  · by_cases h6 : 6 ≤ x.kind
    · have hu : upC x.kind N.length j rf = ⟨rf.node + N.length, rf.shift⟩ := by unfold upC; rw [if_pos (.inr h6)]
      rw [hu] at e1
      have e2 : (Rf.mk (rf.node + N.length) rf.shift).data = .agg [.int .i64 (rf.node + N.length), .int .i64 rf.shift] := rfl
      rw [e2] at e1
      refine ⟨?sy, ?g3, ?g4⟩
      case g3 =>
        unfold c16_l0 cfJ
        simp only [go_sem, hj', hn, hnd, hk, hrd, hlt, hb1, decide_eq_false h1, decide_eq_true h6]
        rfl
      case g4 =>
        rw [wrap64 (by omega) (by omega), wrap64 (by omega) (by omega)]
        unfold cfJ
        rw [e1]
        show _ = _
        kernel_rfl
    · have hu : upC x.kind N.length j rf = rf := by unfold upC; rw [if_neg (by omega)]
      rw [hu, hrd] at e1
      refine ⟨?sz, ?g5, ?g6⟩
      case g5 =>
        unfold c16_l0 cfJ
        simp only [go_sem, hj', hn, hnd, hk, hrd, hlt, hb1, decide_eq_false h1, decide_eq_false h6]
        rfl
      case g6 =>
        rw [wrap64 (by omega) (by omega)]
        unfold cfJ
        rw [e1]
        show _ = _
        kernel_rfl
theorem cf_outer (N : List Nd) (h : NdOk N) (i : Nat) (hi : i < N.length) : ∃ s, exec att RW LW c16_l1 (cfI N i) = some (.normal, s) ∧ norm [0, 3, 4] s = cfI N (i + 1) := by
  have hlen := h.len
  have hi' : (i : Int) < N.length := by omega
  have hn : N[i]? = some N[i] := List.getElem?_eq_getElem hi
  have hll := h.lists N[i] (List.getElem_mem hi)
  have hkk := kindR_run N[i].kind
  have e1 : (N ++ (N.take (i + 1)).map (dualC N.length)).map Nd.data = (N ++ (N.take i).map (dualC N.length)).map Nd.data ++ [(dualC N.length N[i]).data] := by
    rw [List.take_succ_eq_append_getElem hi, List.map_append, List.map_append, List.map_append, List.map_append, List.append_assoc]; rfl
  have hlt : (N ++ (N.take i).map (dualC N.length)).length = N.length + i := by rw [List.length_append, List.length_map, List.length_take]; omega
  generalize hx : N[i] = x at hn hll hkk e1
  have hnd : x.data = .agg [.int .i64 x.kind, .int .i64 x.prio, .sl 1 (x.labels.map .str), .sl 2 (x.next.map Rf.data)] := rfl
  have hne : (dualC N.length x).data = .agg [.int .i64 (kindD x.kind), .int .i64 x.prio, .sl 1 (x.labels.map .str), .sl 2 ((upCL x.kind N.length x.next).map Rf.data)] := rfl
  rw [hne] at e1
  have hb2 : decide ((N.length + i + 1) * 64 ≤ 140737488355328) = true := by simp; omega
  refine ⟨?sx, ?g1, ?g2⟩
  case g1 =>
    unfold c16_l1 cfI
    simp only [go_sem, hi', hn, hnd, hkk]
    refine obind_mk (a := ?e2) (Eq.trans (by kernel_rfl) (loop_from0 (vf := vf) (att := att) (ext := ext) (keep := [0, 3, 4, 5, 6]) (c := c16_l0) (I := cfJ N i x) (n := x.next.length) ?hs2 ?he2 ?hn2)) ?rest2
    case hs2 => exact fun j hj => cf_inner N h i x hn j hj
    case he2 =>
      unfold c16_l0 cfJ
      simp only [go_sem, hn, hnd, List.take_length]
      rfl
    case hn2 => intro h; cases h
    case rest2 =>
      simp only [go_sem, hlt, hb2]
      rfl
  case g2 =>
    rw [wrap64 (by omega) (by omega)]
    unfold cfI
    rw [e1]
    show _ = _
    kernel_rfl
def closeC (N : List Nd) : List Nd := N ++ N.map (dualC N.length)
theorem closeC_run (N : List Nd) (h : NdOk N) : RW 16 [.d (.sl 4 (N.map Nd.data))] [] = some (.own 0, [(0, some (.arr 4 ((closeC N).map Nd.data) true))]) := by
  have hlen := h.len
  have hb : decide (N.length * 64 ≤ 140737488355328) = true := by simp; omega
  have hz := sizes_nd N
  have e0 : cfI N 0 = ⟨[(0, .d (.sl 4 (N.map Nd.data))), (3, .own 0), (4, .d (.int .i64 0))], [(0, some (.arr 4 (N.map Nd.data) true))], 1, 0, false⟩ := by
    unfold cfI; rw [List.take_zero, List.map_nil, List.append_nil]; rfl
  refine runW_fn rfl rfl ?_
  unfold runFn c16
  simp only [go_sem, hb, hz]
  refine obind_mk (a := ?e) (Eq.trans (Eq.trans (by kernel_rfl) (congrArg (LW [0, 3, 4] c16_l1) e0).symm) (loop_from0 (vf := vf) (att := att) (ext := ext) (keep := [0, 3, 4]) (c := c16_l1) (I := cfI N) (n := N.length) ?hs ?he ?hn)) ?rest
  case hs => exact fun i hi => cf_outer N h i hi
  case he =>
    unfold c16_l1 cfI
    simp only [go_sem, List.take_length]
    rfl
  case hn => intro h; cases h
  case rest =>
    simp only [go_sem]
    show _ = _
    kernel_rfl

/-! ### the same texts, the same graph -/
def txI (l : List (List UInt8)) (i : Nat) : St := ⟨[(0, .d (.sl 1 (l.map .str))), (1, .d (.sl 1 (l.map .str))), (5, .d (.int .i64 i))], [], 0, 0, false⟩
theorem texts_run (l : List (List UInt8)) (hl : l.length < 1000000000) : RW 34 [.d (.sl 1 (l.map .str)), .d (.sl 1 (l.map .str))] [] = some (.d (.bool true), []) := by
  refine runW_fn rfl rfl ?_
  unfold runFn c34
  simp only [go_sem]
  refine obind_mk (a := ?e) (Eq.trans (by kernel_rfl) (loop_from0 (vf := vf) (att := att) (ext := ext) (keep := [0, 1, 5]) (c := c34_l0) (I := txI l) (n := l.length) ?hs ?he ?hn)) ?rest
  case hs =>
    intro i hi
    have hi' : (i : Int) < l.length := by omega
    have hk : l[i]? = some l[i] := List.getElem?_eq_getElem hi
    refine ⟨?sx, ?g1, ?g2⟩
    case g1 =>
      unfold c34_l0 txI
      simp only [go_sem, hi', hk]
      rfl
    case g2 =>
      rw [wrap64 (by omega) (by omega)]
      unfold txI
      show _ = _
      kernel_rfl
  case he =>
    unfold c34_l0 txI
    simp only [go_sem]
    rfl
  case hn => intro h; cases h
  case rest => simp only [go_sem]

def saI (N : List Nd) (i : Nat) : St := ⟨[(1, .d (.sl 4 (N.map Nd.data))), (2, .ptr 0 0), (5, .d (.int .i64 i))], [(0, some (.box [.d (.sl 4 (N.map Nd.data))]))], 1, 0, false⟩
def saJ (N : List Nd) (i : Nat) (x : Nd) (j : Nat) : St := ⟨[(1, .d (.sl 4 (N.map Nd.data))), (2, .ptr 0 0), (5, .d (.int .i64 i)), (6, .ptr 1 0), (7, .d (.int .i64 j))],
  [(0, some (.box [.d (.sl 4 (N.map Nd.data))])), (1, some (.box [.d (.int .i64 x.kind), .d (.int .i64 x.prio), .d (.sl 1 (x.labels.map .str)), .d (.sl 2 (x.next.map Rf.data))]))], 2, 0, false⟩
theorem sa_inner (N : List Nd) (i : Nat) (x : Nd) (hn : N[i]? = some x) (hl : x.next.length < 1000000000) (j : Nat) (hj : j < x.next.length) :
    ∃ s, exec att RW LW c14_l0 (saJ N i x j) = some (.normal, s) ∧ norm [1, 2, 5, 6, 7] s = saJ N i x (j + 1) := by
  have hj' : (j : Int) < x.next.length := by omega
  have hk : x.next[j]? = some x.next[j] := List.getElem?_eq_getElem hj
  have hnd : x.data = .agg [.int .i64 x.kind, .int .i64 x.prio, .sl 1 (x.labels.map .str), .sl 2 (x.next.map Rf.data)] := rfl
  generalize hrf : x.next[j] = rf at hk
  have hrd : rf.data = .agg [.int .i64 rf.node, .int .i64 rf.shift] := rfl
  refine ⟨?sx, ?g1, ?g2⟩
  case g1 =>
    unfold c14_l0 saJ
    simp only [go_sem, hj', hn, hnd, hk, hrd]
    rfl
  case g2 =>
    rw [wrap64 (by omega) (by omega)]
    unfold saJ
    show _ = _
    kernel_rfl
theorem sa_outer (N : List Nd) (hN : N.length < 10000000000) (hl : ∀ x ∈ N, x.labels.length < 1000000000 ∧ x.next.length < 1000000000) (i : Nat) (hi : i < N.length) :
    ∃ s, exec att RW LW c14_l1 (saI N i) = some (.normal, s) ∧ norm [1, 2, 5] s = saI N (i + 1) := by
  have hi' : (i : Int) < N.length := by omega
  have hn : N[i]? = some N[i] := List.getElem?_eq_getElem hi
  have hll := hl N[i] (List.getElem_mem hi)
  generalize hx : N[i] = x at hn hll
  have hnd : x.data = .agg [.int .i64 x.kind, .int .i64 x.prio, .sl 1 (x.labels.map .str), .sl 2 (x.next.map Rf.data)] := rfl
  have ht := texts_run x.labels hll.1
  refine ⟨?sx, ?g1, ?g2⟩
  case g1 =>
    unfold c14_l1 saI
    simp only [go_sem, hi', hn, hnd, ht]
    refine obind_mk (a := ?e2) (Eq.trans (by kernel_rfl) (loop_from0 (vf := vf) (att := att) (ext := ext) (keep := [1, 2, 5, 6, 7]) (c := c14_l0) (I := saJ N i x) (n := x.next.length) ?hs2 ?he2 ?hn2)) ?rest2
    case hs2 => exact fun j hj => sa_inner N i x hn hll.2 j hj
    case he2 =>
      unfold c14_l0 saJ
      simp only [go_sem]
      rfl
    case hn2 => intro h; cases h
    case rest2 =>
      simp only [go_sem]
      rfl
  case g2 =>
    rw [wrap64 (by omega) (by omega)]
    unfold saI
    show _ = _
    kernel_rfl
theorem same_run (N : List Nd) (hN : N.length < 10000000000) (hl : ∀ x ∈ N, x.labels.length < 1000000000 ∧ x.next.length < 1000000000) :
    RW 14 [.d (.agg [.sl 4 (N.map Nd.data)]), .d (.sl 4 (N.map Nd.data))] [] = some (.d (.bool true), []) := by
  refine runW_fn rfl rfl ?_
  unfold runFn c14
  simp only [go_sem]
  refine obind_mk (a := ?e) (Eq.trans (by kernel_rfl) (loop_from0 (vf := vf) (att := att) (ext := ext) (keep := [1, 2, 5]) (c := c14_l1) (I := saI N) (n := N.length) ?hs ?he ?hn)) ?rest
  case hs => exact fun i hi => sa_outer N hN hl i hi
  case he =>
    unfold c14_l1 saI
    simp only [go_sem]
    rfl
  case hn => intro h; cases h
  case rest => simp only [go_sem]
end Go.Proofs.YtijfioakpngdhaaDoor

namespace Go.Proofs.YtijfioakpngdhaaDoor
open Go.V
set_option maxRecDepth 100000
set_option linter.unusedSimpArgs false
set_option linter.unusedVariables false

theorem nodesE_all (P : Nd → Prop) (h : ∀ (t : T) (a : Int) (names : List (List UInt8)) (refs : List Rf), Shp t → t.kind ≤ 7 → P ⟨t.kind, t.prio, t.labels, nextsL t.kids a names refs⟩) (t : T) :
    ∀ (a : Int) (names : List (List UInt8)) (refs : List Rf), Shp t → ∀ x ∈ nodesE t a names refs, P x := by
  induction t using T.ind with
  | h t ih =>
  intro a names refs hs n hn
  have hL : ∀ (l : List T) (a : Int), (∀ s ∈ l, s ∈ t.kids) → ∀ n ∈ nodesL l a names refs, P n := by
    intro l
    induction l with
    | nil => intro _ _ n hn; cases hn
    | cons x l ihl =>
      intro a hx n hn
      rw [nodesL] at hn
      rcases List.mem_append.1 hn with hn | hn
      · exact ih x (hx x List.mem_cons_self) _ _ _ (hs.kid x (hx x List.mem_cons_self)) n hn
      · exact ihl _ (fun s h => hx s (List.mem_cons_of_mem _ h)) n hn
  have hk := shape_kinds hs.sh
  rw [nodesE_eq] at hn
  by_cases h8 : t.kind = 8
  · obtain ⟨s, hks⟩ := hs.one h8
    have hm : s ∈ t.kids := by rw [hks]; exact List.mem_singleton.2 rfl
    rw [if_pos h8, hks, nodes1] at hn
    exact ih s hm _ _ _ (hs.kid s hm) n hn
  · rw [if_neg h8] at hn
    by_cases h9 : t.kind = 9
    · rw [if_pos h9] at hn; cases hn
    · rw [if_neg h9] at hn
      rcases List.mem_cons.1 hn with hn | hn
      · subst hn
        exact h t (a + 1) names refs hs (by omega)
      · exact hL _ _ (fun s h => h) n hn
theorem nodesL_all (P : Nd → Prop) (h : ∀ (t : T) (a : Int) (names : List (List UInt8)) (refs : List Rf), Shp t → t.kind ≤ 7 → P ⟨t.kind, t.prio, t.labels, nextsL t.kids a names refs⟩) (l : List T) :
    ∀ (a : Int) (names : List (List UInt8)) (refs : List Rf), (∀ t ∈ l, Shp t) → ∀ x ∈ nodesL l a names refs, P x := by
  induction l with
  | nil => intro _ _ _ _ n hn; cases hn
  | cons x l ihl =>
    intro a names refs hs n hn
    rw [nodesL] at hn
    rcases List.mem_append.1 hn with hn | hn
    · exact nodesE_all P h x _ _ _ (hs x List.mem_cons_self) n hn
    · exact ihl _ _ _ (fun s h => hs s (List.mem_cons_of_mem _ h)) n hn
/-- actions have two references, data none -/
def KindsOk (x : Nd) : Prop := x.kind ≤ 7 ∧ (x.kind ≤ 5 → x.next.length ≤ 2)
theorem shape_kids {t : T} (h : shapeB t = true) (h5 : t.kind ≤ 5) : t.kids.length ≤ 2 := by
  have hk := shape_kinds h
  unfold shapeB at h
  by_cases h1 : t.kind = 1
  · simp [h1] at h; simp [h.2.2.2.2]
  by_cases h2 : t.kind = 2
  · simp [h2] at h; simp [h.2.2.2.2]
  by_cases h3 : t.kind = 3
  · simp [h3] at h; simp [h.2.2.2.2]
  by_cases h4 : t.kind = 4
  · simp [h4] at h; omega
  by_cases h5 : t.kind = 5
  · simp [h5] at h; omega
  omega
theorem nodesL_kinds (l : List T) (h : ∀ t ∈ l, Shp t) : ∀ x ∈ nodesL l 0 [] [], KindsOk x :=
  nodesL_all KindsOk (fun t a names refs hs h7 => ⟨h7, fun h5 => by
    show (nextsL t.kids a names refs).length ≤ 2
    rw [nextsL_len]; exact shape_kids hs.sh h5⟩) l 0 [] [] h
theorem upC_up (k n : Int) (j : Nat) (r : Rf) (h7 : k ≤ 7) (hj : k ≤ 5 → j < 2) : upC k n j r = upR k n j r := by
  unfold upC upR
  by_cases h : (j : Int) = 1 ∨ 6 ≤ k
  · rw [if_pos h, if_pos]
    rcases h with h | h
    · left; omega
    · right; omega
  · rw [if_neg h, if_neg]
    intro hh
    by_cases h5 : k ≤ 5
    · have := hj h5; omega
    · omega
theorem closeC_eq (N : List Nd) (h : ∀ x ∈ N, KindsOk x) : closeC N = closeE N := by
  unfold closeC closeE
  congr 1
  refine List.map_congr_left fun x hx => ?_
  obtain ⟨h7, h5⟩ := h x hx
  unfold dualC dualN
  congr 1
  unfold upCL upL
  apply List.ext_getElem?
  intro j
  rw [List.getElem?_mapIdx, List.getElem?_mapIdx]
  cases hj : x.next[j]? with
  | none => rfl
  | some r =>
    have := (List.getElem?_eq_some_iff.1 hj).1
    simp only [Option.map_some]
    rw [upC_up _ _ _ _ h7 fun h => by have := h5 h; omega]

theorem matches_run (l : List T) (k : Int) (hl : l.length < 1000000000000000) (hw : ∀ t ∈ l, Wf t) :
    RW 3 [.d (.sl 6 (l.map T.data)), .d (.int .i64 k)] [] = some (.d (.bool true), []) := by
  have ha := awake_run
  obtain ⟨b, hf, hb⟩ := fews_run l 10 200 hl hw (by omega) (by omega)
  refine runW_fn rfl rfl ?_
  unfold runFn c3
  cases b with
  | false => simp only [go_sem, ha, hf]
  | true =>
    have hfew := hb.1 rfl
    have hfine := few_fine hw (by omega) (by omega) hfew
    have hg := graph_run l hfine
    have hbd := build_run l hfine
    have hok := fine_nd hfine
    have hkd := nodesL_kinds l hfine.shp
    have hbd2 := nodesL_bound l 0 hfine.shp
    have hsz := hfine.size
    generalize nodesL l 0 [] [] = N at *
    have hcl := close_run N hok
    have hcc := closeC_run N hok
    rw [closeC_eq N hkd] at hcc
    have hlen := hok.len
    have s1 := same_run (closeE N) (by rw [closeE_len]; omega) (fun x hx => by
      unfold closeE at hx
      rcases List.mem_append.1 hx with hx | hx
      · have := hok.lists x hx; omega
      · obtain ⟨y, hy, rfl⟩ := List.mem_map.1 hx
        have := hok.lists y hy
        refine ⟨this.1, ?_⟩
        show (upL y.kind N.length y.next).length < _
        unfold upL
        rw [List.length_mapIdx]; exact this.2)
    have s2 := same_run N (by omega) (fun x hx => by have := hok.lists x hx; omega)
    have k1 := kind_run k
    have k2 := kindR_run k
    generalize closeE N = C at *
    simp only [go_sem, ha, hf, hg, hbd, hcl, hcc, s1, s2, k1, k2]
end Go.Proofs.YtijfioakpngdhaaDoor

namespace Go.Proofs.YtijfioakpngdhaaDoor
open Go.V
set_option maxRecDepth 100000
set_option linter.unusedSimpArgs false
set_option linter.unusedVariables false

theorem lookR_skip (names : List (List UInt8)) (refs : List Rf) (x : List UInt8) (s : Int) (z : Rf) (m : Nat) : ∀ d, (∀ j, m ≤ j → j < m + d → names[j]? ≠ some x) → lookR names refs x s z (m + d) = lookR names refs x s z m
  | 0, _ => rfl
  | d + 1, h => by
    rw [show m + (d + 1) = (m + d) + 1 by omega, lookR_succ, if_neg (h (m + d) (by omega) (by omega))]
    exact lookR_skip names refs x s z m d fun j h1 h2 => h j h1 (by omega)
theorem find_look (names ext : List (List UInt8)) (refs : List Rf) (x : List UInt8) (s : Int) (z : Rf) (g : Int) (hg : g ≤ names.length) (hr : refs.length = names.length) : ∀ M, (∀ j, M ≤ j → j < names.length → names[j]? ≠ some x) → findE (names ++ ext) x g M = 0 →
    ∃ r ∈ refs, lookR names refs x s z names.length = ⟨r.node, r.shift + s⟩
  | 0, _, h => by cases h
  | M + 1, hj, h => by
    rw [findE_succ] at h
    by_cases hx : (names ++ ext)[M]? = some x
    · rw [if_pos hx] at h
      by_cases hm : (M : Int) < g
      · have hM : M < names.length := by omega
        rw [List.getElem?_append_left hM] at hx
        have hk : refs[M]? = some (refs[M]'(by omega)) := List.getElem?_eq_getElem _
        refine ⟨refs[M]'(by omega), List.getElem_mem _, ?_⟩
        obtain ⟨d, hd⟩ : ∃ d, names.length = (M + 1) + d := ⟨names.length - (M + 1), by omega⟩
        rw [hd, lookR_skip names refs x s z (M + 1) d fun j h1 h2 => hj j h1 (by omega), lookR_succ, if_pos hx, hk]
        rfl
      · rw [if_neg hm] at h; cases h
    · rw [if_neg hx] at h
      refine find_look names ext refs x s z g hg hr M (fun j h1 h2 => ?_) h
      by_cases e : j = M
      · subst e
        rw [List.getElem?_append_left h2] at hx
        exact hx
      · exact hj j (by omega) h2
/-- what a right node is -/
theorem nodeV_out {t : T} {names : List (List UInt8)} {g : Int} {ses : Bool} (hw : Wf t) (hs : names.length + t.size < 1000000000) (hz : nodeV t names g ses = 0) :
    shapeB t = true ∧ (t.kind = 9 → findE names t.name g names.length = 0) ∧ (t.kind = 8 → ∀ s ∈ t.kids, nodeV s (names ++ [t.name]) g true = 0) ∧ (t.kind ≤ 7 → ∀ s ∈ t.kids, ∃ b, nodeV s names names.length b = 0) := by
  rw [(node_run t names g ses hw hs).2] at hz
  unfold nodeS at hz
  by_cases h1 : shapeB t = false ∨ ses = true ∧ (t.kind = 1 ∨ t.kind = 2)
  · rw [if_pos h1] at hz; cases hz
  · rw [if_neg h1] at hz
    have hsh : shapeB t = true := by cases hb : shapeB t; exact absurd (.inl hb) h1; rfl
    refine ⟨hsh, fun h9 => ?_, fun h8 => ?_, fun h7 => ?_⟩
    · rw [if_pos h9] at hz; exact hz
    · rw [if_neg (by omega), if_pos h8] at hz
      have hkl : ∃ s, t.kids = [s] := by
        have := hsh
        unfold shapeB at this
        simp only [h8] at this
        simp at this
        exact List.length_eq_one_iff.1 (by omega)
      obtain ⟨s, hks⟩ := hkl
      rw [hks] at hz ⊢
      intro s' hs'
      rw [List.mem_singleton.1 hs']; exact hz
    · rw [if_neg (by omega), if_neg (by omega)] at hz
      exact nodeL_zero _ _ _ _ hz
/-- the reference of a right type: its first node, or one of the references that are there -/
theorem refE_in (t : T) : ∀ (names ext : List (List UInt8)) (refs : List Rf) (g a : Int) (ses : Bool), Wf t → names.length + ext.length + t.size < 1000000000 → g ≤ names.length → refs.length = names.length → nodeV t (names ++ ext) g ses = 0 →
    (1 ≤ cnt t ∧ refE t a names refs = ⟨a, 0⟩) ∨ ∃ r ∈ refs, (refE t a names refs).node = r.node := by
  induction t using T.ind with
  | h t ih =>
  intro names ext refs g a ses hw hs hg hr hz
  have hsz := T.size_eq t
  obtain ⟨hsh, o9, o8, o7⟩ := nodeV_out hw (by rw [List.length_append]; omega) hz
  have hk := shape_kinds hsh
  rw [refE_eq]
  by_cases h8 : t.kind = 8
  · have hkl : ∃ s, t.kids = [s] := by
      have := hsh
      unfold shapeB at this
      simp only [h8] at this
      simp at this
      exact List.length_eq_one_iff.1 (by omega)
    obtain ⟨s, hks⟩ := hkl
    have hm : s ∈ t.kids := by rw [hks]; exact List.mem_singleton.2 rfl
    have hss := T.size_mem hm
    have := o8 h8 s hm
    rw [List.append_assoc] at this
    have := ih s hm names (ext ++ [t.name]) refs g a true (hw.kid hm) (by rw [List.length_append, List.length_singleton]; omega) hg hr this
    rw [if_pos h8, hks, refE1, cnt_eq, hks, cntL, cntL, if_neg (by omega)]
    rcases this with ⟨h1, h2⟩ | h
    · exact .inl ⟨by omega, h2⟩
    · exact .inr h
  · rw [if_neg h8]
    by_cases h9 : t.kind = 9
    · rw [if_pos h9]
      obtain ⟨r, h1, h2⟩ := find_look names ext refs t.name t.shift ⟨a, 0⟩ g hg hr _ (fun j h1 h2 => by rw [List.length_append] at h1; omega) (o9 h9)
      exact .inr ⟨r, h1, by rw [h2]⟩
    · rw [if_neg h9]
      exact .inl ⟨by rw [cnt_eq, if_pos (by omega)]; omega, rfl⟩
theorem refE_lt {t : T} {names : List (List UInt8)} {refs : List Rf} {g a b : Int} {ses : Bool} (hw : Wf t) (hs : names.length + t.size < 1000000000) (hg : g ≤ names.length) (hr : refs.length = names.length) (hz : nodeV t names g ses = 0)
    (h0 : 0 ≤ a) (hb : a + cnt t ≤ b) (hrf : ∀ r ∈ refs, 0 ≤ r.node ∧ r.node < b) : 0 ≤ (refE t a names refs).node ∧ (refE t a names refs).node < b := by
  rcases refE_in t names [] refs g a ses hw (by rw [List.length_nil]; omega) hg hr (by rw [List.append_nil]; exact hz) with ⟨h1, h2⟩ | ⟨r, h1, h2⟩
  · rw [h2]; dsimp only; omega
  · rw [h2]; exact hrf r h1
theorem nodesE_lt (t : T) : ∀ (names : List (List UInt8)) (refs : List Rf) (g a b : Int) (ses : Bool), Wf t → names.length + t.size < 1000000000 → g ≤ names.length → refs.length = names.length → nodeV t names g ses = 0 →
    0 ≤ a → a + cnt t ≤ b → (∀ r ∈ refs, 0 ≤ r.node ∧ r.node < b) → ∀ x ∈ nodesE t a names refs, ∀ r ∈ x.next, 0 ≤ r.node ∧ r.node < b := by
  induction t using T.ind with
  | h t ih =>
  intro names refs g a b ses hw hs hg hr hz h0 hb hrf x hx
  have hsz := T.size_eq t
  obtain ⟨hsh, o9, o8, o7⟩ := nodeV_out hw hs hz
  have hk := shape_kinds hsh
  have hc := cnt_eq t
  rw [nodesE_eq] at hx
  by_cases h8 : t.kind = 8
  · have hkl : ∃ s, t.kids = [s] := by
      have := hsh
      unfold shapeB at this
      simp only [h8] at this
      simp at this
      exact List.length_eq_one_iff.1 (by omega)
    obtain ⟨s, hks⟩ := hkl
    have hm : s ∈ t.kids := by rw [hks]; exact List.mem_singleton.2 rfl
    have hss := T.size_mem hm
    rw [if_pos h8, hks, nodes1] at hx
    rw [hks, cntL, cntL, if_neg (by omega)] at hc
    have hrt := refE_lt hw hs hg hr hz h0 hb hrf
    exact ih s hm (names ++ [t.name]) _ g a b true (hw.kid hm) (by rw [List.length_append, List.length_singleton]; omega) (by rw [List.length_append, List.length_singleton]; omega)
      (by rw [List.length_append, List.length_append, hr]; rfl) (o8 h8 s hm) h0 (by omega) (fun r h => by
        rcases List.mem_append.1 h with h | h
        · exact hrf r h
        · rw [List.mem_singleton.1 h]; exact hrt) x hx
  · rw [if_neg h8] at hx
    by_cases h9 : t.kind = 9
    · rw [if_pos h9] at hx; cases hx
    · rw [if_neg h9] at hx
      rw [if_pos (by omega)] at hc
      have o7' := o7 (by omega)
      have hN : ∀ (l : List T) (a : Int), (∀ s ∈ l, s ∈ t.kids) → 0 ≤ a → a + cntL l ≤ b → ∀ r ∈ nextsL l a names refs, 0 ≤ r.node ∧ r.node < b := by
        intro l
        induction l with
        | nil => intro _ _ _ _ r hr; cases hr
        | cons y l ihl =>
          intro a hy h0 hb r hm
          rw [cntL] at hb
          have hym := hy y List.mem_cons_self
          obtain ⟨b', hb'⟩ := o7' y hym
          rcases List.mem_cons.1 hm with e | hm
          · subst e
            exact refE_lt (hw.kid hym) (by have := T.size_mem hym; omega) (Int.le_refl _) hr hb' h0 (by omega) hrf
          · exact ihl (a + cnt y) (fun s h => hy s (List.mem_cons_of_mem _ h)) (by omega) (by omega) r hm
      have hL : ∀ (l : List T) (a : Int), (∀ s ∈ l, s ∈ t.kids) → 0 ≤ a → a + cntL l ≤ b → ∀ x ∈ nodesL l a names refs, ∀ r ∈ x.next, 0 ≤ r.node ∧ r.node < b := by
        intro l
        induction l with
        | nil => intro _ _ _ _ n hn; cases hn
        | cons y l ihl =>
          intro a hy h0 hb n hn
          rw [nodesL] at hn
          rw [cntL] at hb
          have hym := hy y List.mem_cons_self
          obtain ⟨b', hb'⟩ := o7' y hym
          rcases List.mem_append.1 hn with hn | hn
          · exact ih y hym names refs names.length a b b' (hw.kid hym) (by have := T.size_mem hym; omega) (Int.le_refl _) hr hb' h0 (by omega) hrf n hn
          · exact ihl (a + cnt y) (fun s h => hy s (List.mem_cons_of_mem _ h)) (by omega) (by omega) n hn
      rcases List.mem_cons.1 hx with e | hx
      · subst e
        exact hN t.kids (a + 1) (fun s h => h) (by omega) (by omega)
      · exact hL t.kids (a + 1) (fun s h => h) (by omega) (by omega) x hx
theorem right_node {t : T} {m : Int} (h : smallB t m = true) : nodeV t [] 0 false = 0 := by
  unfold smallB at h
  simp only [Bool.and_eq_true, decide_eq_true_eq] at h
  obtain ⟨_, h3, _⟩ := h
  unfold rightV at h3
  by_cases hb : 100 < dep t ∨ 10000 < t.size
  · rw [if_pos hb] at h3; cases h3
  · rw [if_neg hb] at h3; exact h3
/-- all references of a graph of right types are to its nodes -/
theorem nodesL_lt (l : List T) (m : Int) (hm : m < 1000000) : ∀ (a b : Int), (∀ t ∈ l, Wf t) → (∀ t ∈ l, smallB t m = true) → 0 ≤ a → a + cntL l ≤ b → ∀ x ∈ nodesL l a [] [], ∀ r ∈ x.next, 0 ≤ r.node ∧ r.node < b := by
  induction l with
  | nil => intro _ _ _ _ _ _ x hx; cases hx
  | cons t l ih =>
    intro a b hw hs h0 hb x hx
    rw [nodesL] at hx
    rw [cntL] at hb
    have htm := hs t List.mem_cons_self
    have hwt := hw t List.mem_cons_self
    have hsm := small_out hwt hm htm
    rcases List.mem_append.1 hx with hx | hx
    · exact nodesE_lt t [] [] 0 a b false hwt (by rw [List.length_nil]; omega) (by simp) rfl (right_node htm) h0 (by omega) (fun r h => by cases h) x hx
    · exact ih (a + cnt t) b (fun s h => hw s (List.mem_cons_of_mem _ h)) (fun s h => hs s (List.mem_cons_of_mem _ h)) (by omega) (by omega) x hx
theorem refE_top {t : T} {m a : Int} (hw : Wf t) (hm : m < 1000000) (h : smallB t m = true) : refE t a [] [] = ⟨a, 0⟩ := by
  have hsm := small_out hw hm h
  rcases refE_in t [] [] [] 0 a false hw (by rw [List.length_nil]; omega) (by simp) rfl (right_node h) with ⟨_, h2⟩ | ⟨r, h1, _⟩
  · exact h2
  · cases h1

theorem nodesE_shift (t : T) : ∀ (names : List (List UInt8)) (refs : List Rf) (a b : Int), Shp t → refs.length = names.length → 0 ≤ b → (∀ r ∈ refs, 0 ≤ r.shift ∧ r.shift ≤ b) → ∀ x ∈ nodesE t a names refs, ∀ r ∈ x.next, 0 ≤ r.shift ∧ r.shift ≤ b + 1000000 * t.size := by
  induction t using T.ind with
  | h t ih =>
  intro names refs a b hs hr h0 hrf x hx
  have hsz := T.size_eq t
  have hk := shape_kinds hs.sh
  rw [nodesE_eq] at hx
  by_cases h8 : t.kind = 8
  · obtain ⟨s, hks⟩ := hs.one h8
    have hm : s ∈ t.kids := by rw [hks]; exact List.mem_singleton.2 rfl
    have hss := T.size_mem hm
    rw [if_pos h8, hks, nodes1] at hx
    have hrt := refE_shift t a b names refs hs hr h0 hrf
    intro r hrx
    have := ih s hm (names ++ [t.name]) _ a (b + 1000000) (hs.kid s hm) (by rw [List.length_append, List.length_append, hr]; rfl) (by omega) (fun r h => by
        rcases List.mem_append.1 h with h | h
        · have := hrf r h; omega
        · rw [List.mem_singleton.1 h]; exact hrt) x hx r hrx
    omega
  · rw [if_neg h8] at hx
    by_cases h9 : t.kind = 9
    · rw [if_pos h9] at hx; cases hx
    · rw [if_neg h9] at hx
      have hN : ∀ (l : List T) (a : Int), (∀ s ∈ l, s ∈ t.kids) → ∀ r ∈ nextsL l a names refs, 0 ≤ r.shift ∧ r.shift ≤ b + 1000000 * t.size := by
        intro l
        induction l with
        | nil => intro _ _ r hr; cases hr
        | cons y l ihl =>
          intro a hy r hm
          have hym := hy y List.mem_cons_self
          rcases List.mem_cons.1 hm with e | hm
          · subst e
            have := refE_shift y a b names refs (hs.kid y hym) hr h0 hrf
            have := T.size_mem hym
            have := T.size_eq y
            omega
          · exact ihl (a + cnt y) (fun s h => hy s (List.mem_cons_of_mem _ h)) r hm
      have hL : ∀ (l : List T) (a : Int), (∀ s ∈ l, s ∈ t.kids) → ∀ x ∈ nodesL l a names refs, ∀ r ∈ x.next, 0 ≤ r.shift ∧ r.shift ≤ b + 1000000 * t.size := by
        intro l
        induction l with
        | nil => intro _ _ n hn; cases hn
        | cons y l ihl =>
          intro a hy n hn
          rw [nodesL] at hn
          have hym := hy y List.mem_cons_self
          rcases List.mem_append.1 hn with hn | hn
          · intro r hrx
            have := ih y hym names refs a b (hs.kid y hym) hr h0 hrf n hn r hrx
            have := T.size_mem hym
            omega
          · exact ihl (a + cnt y) (fun s h => hy s (List.mem_cons_of_mem _ h)) n hn
      rcases List.mem_cons.1 hx with e | hx
      · subst e
        exact hN t.kids (a + 1) (fun s h => h)
      · exact hL t.kids (a + 1) (fun s h => h) x hx
theorem nodesL_shift (l : List T) : ∀ (a : Int), (∀ t ∈ l, Shp t) → ∀ x ∈ nodesL l a [] [], ∀ r ∈ x.next, 0 ≤ r.shift ∧ r.shift ≤ 1000000 * T.sizeL l := by
  induction l with
  | nil => intro _ _ x hx; cases hx
  | cons t l ih =>
    intro a hs x hx r hr
    rw [nodesL] at hx
    rw [T.sizeL]
    rcases List.mem_append.1 hx with hx | hx
    · have := nodesE_shift t [] [] a 0 (hs t List.mem_cons_self) rfl (Int.le_refl _) (fun r h => by cases h) x hx r hr; omega
    · have := ih (a + cnt t) (fun s h => hs s (List.mem_cons_of_mem _ h)) x hx r hr; omega
end Go.Proofs.YtijfioakpngdhaaDoor

namespace Go.Proofs.YtijfioakpngdhaaDoor
open Go.V
set_option maxRecDepth 100000
set_option linter.unusedSimpArgs false
set_option linter.unusedVariables false

/-- a loop over a list, and what follows -/
theorem obind_loop {α : Type} {keep : List Nat} {c : VC} {st : St} {I : Nat → St} {n : Nat} {e : Out × St} {f : Out × St → Option α} {r : α} (h0 : norm keep st = I 0)
    (hs : ∀ i, i < n → ∃ s, exec att RW LW c (I i) = some (.normal, s) ∧ norm keep s = I (i + 1))
    (he : exec att RW LW c (I n) = some e) (hn : e.1 ≠ .normal) (rest : f e = some r) : obind (LW keep c (norm keep st)) f = some r := by
  rw [h0]
  exact obind_mk (loop_from0 hs he hn) rest
theorem Rf.data_eq (r : Rf) : r.data = .agg [.int .i64 r.node, .int .i64 r.shift] := rfl
theorem Nd.data_eq (n : Nd) : n.data = .agg [.int .i64 n.kind, .int .i64 n.prio, .sl 1 (n.labels.map .str), .sl 2 (n.next.map Rf.data)] := rfl

def bkI (N : List Nd) (i : Nat) : St := ⟨[(1, .ptr 0 0), (4, .own 1), (5, .d (.int .i64 i))], [(0, some (.box [.d (.sl 4 (N.map Nd.data))])), (1, some (.arr 4 ((N.take i).map Nd.data) true))], 2, 0, false⟩
def bkJ (N : List Nd) (i : Nat) (x : Nd) (j : Nat) : St := ⟨[(1, .ptr 0 0), (4, .own 1), (5, .d (.int .i64 i)), (6, .ptr 2 0), (7, .d (.int .i64 j))],
  [(0, some (.box [.d (.sl 4 (N.map Nd.data))])), (1, some (.arr 4 ((N.take i).map Nd.data) true)), (2, some (.box [.d (.int .i64 x.kind), .d (.int .i64 x.prio), .d (.sl 1 (x.labels.map .str)), .own 3])), (3, some (.arr 2 ((x.next.take j).map Rf.data) true))], 4, 0, false⟩
theorem bk_inner (N : List Nd) (i : Nat) (x : Nd) (hN : N.length < 1000000000) (hn : N[i]? = some x) (hl : x.next.length < 1000000000) (hr : ∀ r ∈ x.next, 0 ≤ r.node ∧ r.node < N.length) (j : Nat) (hj : j < x.next.length) :
    ∃ s, exec att RW LW c22_l0 (bkJ N i x j) = some (.normal, s) ∧ norm [1, 4, 5, 6, 7] s = bkJ N i x (j + 1) := by
  have hj' : (j : Int) < x.next.length := by omega
  have hk : x.next[j]? = some x.next[j] := List.getElem?_eq_getElem hj
  have hrr := hr x.next[j] (List.getElem_mem hj)
  have e1 : (x.next.take (j + 1)).map Rf.data = (x.next.take j).map Rf.data ++ [x.next[j].data] := by
    rw [List.take_succ_eq_append_getElem hj, List.map_append]; rfl
  have hlt : (x.next.take j).length = j := by rw [List.length_take]; omega
  generalize hrf : x.next[j] = rf at hk hrr e1
  rw [Rf.data_eq] at e1
  have h1 : decide (rf.node < 0) = false := decide_eq_false (by omega)
  have h2 : decide ((N.length : Int) ≤ rf.node) = false := decide_eq_false (by omega)
  have hb1 : decide ((j + 1) * 16 ≤ 140737488355328) = true := by simp; omega
  refine ⟨?sx, ?g1, ?g2⟩
  case g1 =>
    unfold c22_l0 bkJ
    simp only [go_sem, hj', hn, Nd.data_eq, hk, Rf.data_eq, h1, h2, hlt, hb1]
    rfl
  case g2 =>
    rw [wrap64 (by omega) (by omega)]
    unfold bkJ
    rw [e1]
    show _ = _
    kernel_rfl
theorem bk_outer (N : List Nd) (h : NdOk N) (hr : ∀ x ∈ N, ∀ r ∈ x.next, 0 ≤ r.node ∧ r.node < N.length) (i : Nat) (hi : i < N.length) :
    ∃ s, exec att RW LW c22_l1 (bkI N i) = some (.normal, s) ∧ norm [1, 4, 5] s = bkI N (i + 1) := by
  have hN := h.len
  have hi' : (i : Int) < N.length := by omega
  have hn : N[i]? = some N[i] := List.getElem?_eq_getElem hi
  have hll := h.lists N[i] (List.getElem_mem hi)
  have hrr := hr N[i] (List.getElem_mem hi)
  have e1 : (N.take (i + 1)).map Nd.data = (N.take i).map Nd.data ++ [N[i].data] := by
    rw [List.take_succ_eq_append_getElem hi, List.map_append]; rfl
  have hlt : (N.take i).length = i := by rw [List.length_take]; omega
  generalize hx : N[i] = x at hn hll hrr e1
  rw [Nd.data_eq] at e1
  have hb1 : decide ((i + 1) * 64 ≤ 140737488355328) = true := by simp; omega
  refine ⟨?sx, ?g1, ?g2⟩
  case g1 =>
    unfold c22_l1 bkI
    simp only [go_sem, hi', hn, Nd.data_eq]
    refine obind_loop (e := ?e2) (I := bkJ N i x) (n := x.next.length) (by kernel_rfl) ?hs2 ?he2 ?hn2 ?rest2
    case hs2 => exact fun j hj => bk_inner N i x (by omega) hn hll.2 hrr j hj
    case he2 =>
      unfold c22_l0 bkJ
      simp only [go_sem, hn, Nd.data_eq]
      rfl
    case hn2 => intro h; cases h
    case rest2 =>
      simp only [go_sem, hlt, hb1, List.take_length]
      rfl
  case g2 =>
    rw [wrap64 (by omega) (by omega)]
    unfold bkI
    rw [e1]
    show _ = _
    kernel_rfl
theorem back_run (N : List Nd) (h : NdOk N) (hr : ∀ x ∈ N, ∀ r ∈ x.next, 0 ≤ r.node ∧ r.node < N.length) :
    RW 22 [.d (.agg [.sl 4 (N.map Nd.data)])] [] = some (.tup [.own 0, .d (.bool true)], [(0, some (.arr 4 (N.map Nd.data) true))]) := by
  have hN := h.len
  refine runW_fn rfl rfl ?_
  unfold runFn c22
  simp only [go_sem]
  refine obind_loop (e := ?e) (I := bkI N) (n := N.length) (by kernel_rfl) ?hs ?he ?hn ?rest
  case hs => exact fun i hi => bk_outer N h hr i hi
  case he =>
    unfold c22_l1 bkI
    simp only [go_sem, List.take_length]
    rfl
  case hn => intro h; cases h
  case rest =>
    simp only [go_sem]
    show _ = _
    kernel_rfl
end Go.Proofs.YtijfioakpngdhaaDoor

namespace Go.Proofs.YtijfioakpngdhaaDoor
open Go.V
set_option maxRecDepth 100000
set_option linter.unusedSimpArgs false
set_option linter.unusedVariables false

/-- where a step leads -/
def stepK (x : Nd) (p : Nat) : Nat := if x.labels.length = 0 then x.next.length - 1 else p % x.next.length
def goE (C : List Nd) (r : Rf) (p : Nat) : Rf :=
  let x := C[r.node.toNat]?.getD default
  let a := x.next[stepK x p]?.getD default
  ⟨a.node, a.shift + r.shift⟩
def wayE (C : List Nd) (r : Rf) : List Nat → Rf
  | [] => r
  | p :: l => wayE C (goE C r p) l
theorem wayE_snoc (C : List Nd) (p : Nat) : ∀ (l : List Nat) (r : Rf), wayE C r (l ++ [p]) = goE C (wayE C r l) p
  | [], _ => rfl
  | q :: l, r => wayE_snoc C p l (goE C r q)

/-- what a graph of right types is like, for this law -/
structure PathOk (N : List Nd) (S : Int) : Prop where
  nd : NdOk N
  len : N.length < 100000000
  refs : ∀ x ∈ N, ∀ r ∈ x.next, 0 ≤ r.node ∧ r.node < N.length
  shifts : ∀ x ∈ N, ∀ r ∈ x.next, 0 ≤ r.shift ∧ r.shift ≤ S
  kinds : ∀ x ∈ N, x.next.length ≠ 0 → (x.labels.length = 0 ∧ 2 ≤ x.next.length ∧ x.kind ≤ 5) ∨ (x.labels.length ≠ 0 ∧ (x.kind = 6 ∨ x.kind = 7))
  pos : 1 ≤ N.length

/-- a place in the closed graph, its node, and the node of the dual -/
theorem close_at (N : List Nd) (q : Nat) (hq : q < N.length + N.length) : ∃ (m : Nat) (y : Nd), m < N.length ∧ N[m]? = some y ∧
    ((q = m ∧ (closeE N)[q]? = some y ∧ (closeE N)[q + N.length]? = some (dualN N.length y)) ∨ (q = m + N.length ∧ (closeE N)[q]? = some (dualN N.length y) ∧ (closeE N)[q - N.length]? = some y)) := by
  have lo : ∀ i, i < N.length → (closeE N)[i]? = N[i]? := fun i hi => by unfold closeE; rw [List.getElem?_append_left hi]
  have hi : ∀ i, i < N.length → (closeE N)[i + N.length]? = (N[i]?).map (dualN N.length) := fun i hi => by
    unfold closeE; rw [List.getElem?_append_right (by omega), List.getElem?_map]; congr 2; omega
  by_cases h : q < N.length
  · have hk : N[q]? = some N[q] := List.getElem?_eq_getElem h
    exact ⟨q, N[q], h, hk, .inl ⟨rfl, by rw [lo q h, hk], by rw [hi q h, hk]; rfl⟩⟩
  · obtain ⟨i, rfl⟩ : ∃ i, q = i + N.length := ⟨q - N.length, by omega⟩
    have hil : i < N.length := by omega
    have hk : N[i]? = some N[i] := List.getElem?_eq_getElem hil
    exact ⟨i, N[i], hil, hk, .inr ⟨rfl, by rw [hi i hil, hk]; rfl, by rw [Nat.add_sub_cancel, lo i hil, hk]⟩⟩

theorem upL_get (k n : Int) (l : List Rf) (j : Nat) : (upL k n l)[j]? = (l[j]?).map fun r => upR k n j r := by
  unfold upL; rw [List.getElem?_mapIdx]
theorem upL_len (k n : Int) (l : List Rf) : (upL k n l).length = l.length := by unfold upL; rw [List.length_mapIdx]

/-- one step: both nodes are there, have as many references, and the next references are dual again -/
theorem path_step (N : List Nd) (S : Int) (h : PathOk N S) (x : Rf) (p : Nat) (hx : 0 ≤ x.node ∧ x.node < ((closeE N).length : Int)) : ∃ (a b : Nd) (e f : Rf),
    (closeE N)[x.node.toNat]? = some a ∧ (closeE N)[(ofE (closeE N).length x).node.toNat]? = some b ∧ 0 ≤ (ofE (closeE N).length x).node ∧ (ofE (closeE N).length x).node < ((closeE N).length : Int) ∧
    b.next.length = a.next.length ∧ a.next.length < 1000000000 ∧ (a.labels.length = 0 → b.labels.length = 0) ∧
    (a.next.length ≠ 0 → a.next[stepK a p]? = some e ∧ b.next[stepK a p]? = some f ∧ stepK a p < a.next.length ∧
      0 ≤ e.node ∧ e.node < ((closeE N).length : Int) ∧ 0 ≤ e.shift ∧ e.shift ≤ S ∧ ofE (closeE N).length ⟨e.node, e.shift + x.shift⟩ = ⟨f.node, f.shift + x.shift⟩) := by
  have hlen := closeE_len N
  have hdiv : (closeE N).length / 2 = N.length := by rw [hlen]; omega
  have hpos := h.pos
  obtain ⟨m, y, hm, hk, hc⟩ := close_at N x.node.toNat (by omega)
  have hym := List.mem_of_getElem? hk
  have hl := h.nd.lists y hym
  have hkk := h.kinds y hym
  have hN := h.nd.len
  -- the step itself
  have key : y.next.length ≠ 0 → ∃ r, y.next[stepK y p]? = some r ∧ stepK y p < y.next.length ∧ 0 ≤ r.node ∧ r.node < N.length ∧ 0 ≤ r.shift ∧ r.shift ≤ S ∧ upR y.kind N.length (stepK y p : Nat) r = ⟨r.node + N.length, r.shift⟩ := by
    intro h0
    have hs : stepK y p < y.next.length := by
      unfold stepK; split
      · omega
      · exact Nat.mod_lt _ (by omega)
    have hg : y.next[stepK y p]? = some y.next[stepK y p] := List.getElem?_eq_getElem hs
    have hmm := List.getElem_mem hs
    refine ⟨_, hg, hs, (h.refs y hym _ hmm).1, (h.refs y hym _ hmm).2, (h.shifts y hym _ hmm).1, (h.shifts y hym _ hmm).2, ?_⟩
    unfold upR
    rw [if_pos]
    rcases hkk h0 with ⟨h1, h2, h3⟩ | ⟨h1, h2⟩
    · left; unfold stepK; rw [if_pos h1]; omega
    · right; exact h2
  have hd : (dualN N.length y).next = upL y.kind N.length y.next := rfl
  have hdl : (dualN N.length y).labels = y.labels := rfl
  have hsk : stepK (dualN N.length y) p = stepK y p := by unfold stepK; rw [hd, hdl, upL_len]
  rcases hc with ⟨h1, h2, h3⟩ | ⟨h1, h2, h3⟩
  · have ho : ofE (closeE N).length x = ⟨x.node + N.length, x.shift⟩ := by unfold ofE; rw [hdiv, if_pos (by omega)]
    by_cases h0 : y.next.length = 0
    · refine ⟨y, dualN N.length y, default, default, h2, ?_, ?_, ?_, by rw [hd, upL_len], hl.2, fun hh => by rw [hdl]; exact hh, fun hh => absurd h0 hh⟩
      · rw [ho]; dsimp only; rw [show (x.node + (N.length : Int)).toNat = x.node.toNat + N.length by omega]; exact h3
      · rw [ho]; dsimp only; omega
      · rw [ho]; dsimp only; omega
    · obtain ⟨r, k1, k2, k3, k4, k5, k6, k7⟩ := key h0
      refine ⟨y, dualN N.length y, r, ⟨r.node + N.length, r.shift⟩, h2, ?_, ?_, ?_, by rw [hd, upL_len], hl.2, fun hh => by rw [hdl]; exact hh, fun _ => ⟨k1, ?_, k2, k3, by omega, k5, k6, ?_⟩⟩
      · rw [ho]; dsimp only; rw [show (x.node + (N.length : Int)).toNat = x.node.toNat + N.length by omega]; exact h3
      · rw [ho]; dsimp only; omega
      · rw [ho]; dsimp only; omega
      · rw [hd, upL_get, k1]; exact congrArg some k7
      · unfold ofE; rw [hdiv]; dsimp only; rw [if_pos (by omega)]
  · have ho : ofE (closeE N).length x = ⟨x.node - N.length, x.shift⟩ := by unfold ofE; rw [hdiv, if_neg (by omega)]
    by_cases h0 : y.next.length = 0
    · refine ⟨dualN N.length y, y, default, default, h2, ?_, ?_, ?_, by rw [hd, upL_len], by rw [hd, upL_len]; exact hl.2, fun hh => by rw [hdl] at hh; exact hh, fun hh => absurd (by rw [hd, upL_len]; exact h0) hh⟩
      · rw [ho]; dsimp only; rw [show (x.node - (N.length : Int)).toNat = x.node.toNat - N.length by omega]; exact h3
      · rw [ho]; dsimp only; omega
      · rw [ho]; dsimp only; omega
    · obtain ⟨r, k1, k2, k3, k4, k5, k6, k7⟩ := key h0
      refine ⟨dualN N.length y, y, ⟨r.node + N.length, r.shift⟩, r, h2, ?_, ?_, ?_, by rw [hd, upL_len], by rw [hd, upL_len]; exact hl.2, fun hh => by rw [hdl] at hh; exact hh, fun _ => ⟨?_, by rw [hsk]; exact k1, by rw [hsk, hd, upL_len]; exact k2, by dsimp only; omega, by dsimp only; omega, k5, k6, ?_⟩⟩
      · rw [ho]; dsimp only; rw [show (x.node - (N.length : Int)).toNat = x.node.toNat - N.length by omega]; exact h3
      · rw [ho]; dsimp only; omega
      · rw [ho]; dsimp only; omega
      · rw [hsk, hd, upL_get, k1]; exact congrArg some k7
      · unfold ofE; rw [hdiv]; dsimp only; rw [if_neg (by omega)]; congr 1; omega
end Go.Proofs.YtijfioakpngdhaaDoor

namespace Go.Proofs.YtijfioakpngdhaaDoor
open Go.V
set_option maxRecDepth 100000
set_option linter.unusedSimpArgs false
set_option linter.unusedVariables false

def paI (C : List Nd) (path : List Nat) (x y : Rf) (i : Nat) : St := ⟨[(1, .d (.sl 1 (path.map fun b => .int .u8 (b : Nat)))), (7, .ptr 0 0), (10, .ptr 2 0), (11, .ptr 3 0), (12, .d (.int .i64 i))],
  [(0, some (.box [.own 1])), (1, some (.arr 4 (C.map Nd.data) false)), (2, some (.box [.d (.int .i64 x.node), .d (.int .i64 x.shift)])), (3, some (.box [.d (.int .i64 y.node), .d (.int .i64 y.shift)]))], 4, 0, false⟩
theorem goE_of {C : List Nd} {r : Rf} {p : Nat} {a : Nd} {e : Rf} (h1 : C[r.node.toNat]? = some a) (h2 : a.next[stepK a p]? = some e) : goE C r p = ⟨e.node, e.shift + r.shift⟩ := by
  unfold goE; dsimp only; rw [h1]; dsimp only [Option.getD]; rw [h2]
theorem pa_loop (N : List Nd) (S : Int) (hS : 0 ≤ S ∧ S ≤ 1000000000000) (h : PathOk N S) (path : List Nat) (hp : path.length ≤ 20) (hb : ∀ b ∈ path, b < 256) (r : Rf) (hr : 0 ≤ r.node ∧ r.node < (closeE N).length) (hrs : r.shift = 0) :
    ∃ e, LW [1, 7, 10, 11, 12] c5_l0 (paI (closeE N) path r (ofE (closeE N).length r) 0) = some e ∧ QE (fun _ => True) 0 (fun _ => False) e := by
  have hlen := closeE_len N
  have hN := h.len
  refine loop_p (keep := [1, 7, 10, 11, 12]) (c := c5_l0) (I := fun i => paI (closeE N) path (wayE (closeE N) r (path.take i)) (ofE (closeE N).length (wayE (closeE N) r (path.take i))) i) (n := path.length)
    (P := fun i => 0 ≤ (wayE (closeE N) r (path.take i)).node ∧ (wayE (closeE N) r (path.take i)).node < (closeE N).length ∧ 0 ≤ (wayE (closeE N) r (path.take i)).shift ∧ (wayE (closeE N) r (path.take i)).shift ≤ i * 1000000000000)
    (fun i hi hP => ?_) (fun hP => ?_) path.length 0 (by omega) ⟨hr.1, hr.2, by rw [List.take_zero]; show 0 ≤ r.shift; omega, by rw [List.take_zero]; show r.shift ≤ _; omega⟩
  · have hi' : (i : Int) < path.length := by omega
    have hk : path[i]? = some path[i] := List.getElem?_eq_getElem hi
    have hb256 := hb path[i] (List.getElem_mem hi)
    have hw : wayE (closeE N) r (path.take (i + 1)) = goE (closeE N) (wayE (closeE N) r (path.take i)) path[i] := by
      rw [List.take_succ_eq_append_getElem hi, wayE_snoc]
    rw [hw]
    generalize wayE (closeE N) r (path.take i) = x at hP ⊢
    generalize path[i] = p at hk hb256 ⊢
    obtain ⟨hP1, hP2, hP3, hP4⟩ := hP
    obtain ⟨a, b, e, f, h1, h2, h3, h4, h5, h6, h7, h8⟩ := path_step N S h x p ⟨hP1, hP2⟩
    have hof : ∀ z : Rf, 0 ≤ z.node → z.node < (closeE N).length → RW 19 [.d (.agg [.sl 4 ((closeE N).map Nd.data)]), .d z.data] [] = some (.d (ofE (closeE N).length z).data, []) := fun z z1 z2 => of_run (closeE N) z (by omega) (by omega)
    generalize hC : closeE N = C at *
    generalize hy : ofE C.length x = y at *
    have d1 : decide (y.node < 0) = false := decide_eq_false (by omega)
    have d2 : decide ((C.length : Int) ≤ y.node) = false := decide_eq_false (by omega)
    have d3 : decide (x.node < 0) = false := decide_eq_false (by omega)
    have d4 : decide ((C.length : Int) ≤ x.node) = false := decide_eq_false (by omega)
    have d5 : decide (0 ≤ x.node) = true := decide_eq_true (by omega)
    have d6 : decide (x.node.toNat < C.length) = true := decide_eq_true (by omega)
    have d7 : decide (0 ≤ y.node) = true := decide_eq_true (by omega)
    have d8 : decide (y.node.toNat < C.length) = true := decide_eq_true (by omega)
    by_cases h0 : a.next.length = 0
    · refine .inr ⟨?e1, ?g1, ?g2, ?g3⟩
      case g1 =>
        unfold c5_l0 paI
        simp only [go_sem, hi', d1, d2, d3, d4, d5, d6, d7, d8, h1, h2, Nd.data_eq, h5, h0]
        rfl
      case g2 => intro h; cases h
      case g3 => exact ⟨.inl ⟨rfl, trivial⟩, rfl, rfl⟩
    · obtain ⟨k1, k2, k3, k4, k5, k6, k7, k8⟩ := h8 h0
      rw [goE_of h1 k1]
      have hof2 := hof ⟨e.node, e.shift + x.shift⟩ k4 k5
      rw [k8] at hof2 ⊢
      have hys : y.shift = x.shift := by rw [← hy]; unfold ofE; split <;> rfl
      have w1 : IntKind.wrap .i64 (p : Int) = p := wrap64 (by omega) (by omega)
      have w2 : IntKind.wrap .i64 (e.shift + x.shift) = e.shift + x.shift := wrap64 (by omega) (by omega)
      have k8s : f.shift = e.shift := by
        have := congrArg Rf.shift k8
        unfold ofE at this; split at this <;> (dsimp only at this; omega)
      have w3 : IntKind.wrap .i64 (f.shift + x.shift) = f.shift + x.shift := wrap64 (by omega) (by omega)
      have w4 : IntKind.wrap .i64 ((a.next.length : Int) - 1) = ((a.next.length - 1 : Nat) : Int) := by rw [wrap64 (by omega) (by omega)]; omega
      have w5 : IntKind.wrap .i64 ((i : Int) + 1) = ((i + 1 : Nat) : Int) := by rw [wrap64 (by omega) (by omega)]; omega
      have tm : (p : Int).tmod (a.next.length : Int) = ((p % a.next.length : Nat) : Int) := by
        rw [Int.tmod_eq_emod_of_nonneg (by omega)]; omega
      have n0 : decide ((a.next.length : Int) = 0) = false := decide_eq_false (by omega)
      have p0 : decide (0 ≤ ((a.next.length - 1 : Nat) : Int)) = true := decide_eq_true (by omega)
      rw [Rf.data_eq, Rf.data_eq] at hof2
      unfold stepK at k1 k2 k3
      by_cases hl : a.labels.length = 0
      · rw [if_pos hl] at k1 k2 k3
        refine .inl ⟨?s1, ?g1, ?g2, k4, k5, by dsimp only; omega, by dsimp only; omega⟩
        case g1 =>
          simp only [go_sem, hi', d1, d2, d3, d4, d5, d6, d7, d8, h1, h2, Nd.data_eq, h5, n0, hk, w1, tm, hl, w4, k1, k2, Rf.data_eq, hys, w2, w3, hof2, c5_l0, paI, w5]
          rfl
        case g2 =>
          unfold paI
          show _ = _
          kernel_rfl
      · rw [if_neg hl] at k1 k2 k3
        have hl0 : decide ((a.labels.length : Int) = 0) = false := decide_eq_false (by omega)
        refine .inl ⟨?s2, ?g1, ?g2, k4, k5, by dsimp only; omega, by dsimp only; omega⟩
        case g1 =>
          simp only [go_sem, hi', d1, d2, d3, d4, d5, d6, d7, d8, h1, h2, Nd.data_eq, h5, n0, hk, w1, tm, hl0, k1, k2, Rf.data_eq, hys, w2, w3, hof2, c5_l0, paI, w5]
          rfl
        case g2 =>
          unfold paI
          show _ = _
          kernel_rfl
  · refine ⟨?e, ?g1, ?g2, ?g3⟩
    case g1 =>
      unfold c5_l0 paI
      simp only [go_sem]
      rfl
    case g2 => intro h; cases h
    case g3 => exact ⟨.inl ⟨rfl, trivial⟩, rfl, rfl⟩
end Go.Proofs.YtijfioakpngdhaaDoor

namespace Go.Proofs.YtijfioakpngdhaaDoor
open Go.V
set_option maxRecDepth 100000
set_option linter.unusedSimpArgs false
set_option linter.unusedVariables false

theorem nextsL_length (names : List (List UInt8)) (refs : List Rf) (l : List T) (a : Int) : (nextsL l a names refs).length = l.length := nextsL_len names refs l a
theorem shape_act {t : T} (h : shapeB t = true) (h7 : t.kind ≤ 7) (h0 : t.kids.length ≠ 0) : (t.labels.length = 0 ∧ 2 ≤ t.kids.length ∧ t.kind ≤ 5) ∨ (t.labels.length ≠ 0 ∧ (t.kind = 6 ∨ t.kind = 7)) := by
  have hk := shape_kinds h
  unfold shapeB at h
  have : t.kind = 1 ∨ t.kind = 2 ∨ t.kind = 3 ∨ t.kind = 4 ∨ t.kind = 5 ∨ t.kind = 6 ∨ t.kind = 7 := by omega
  rcases this with e | e | e | e | e | e | e <;> (rw [e] at h ⊢; simp at h)
  · exact absurd (by rw [h.2.2.2.2]; rfl) h0
  · exact absurd (by rw [h.2.2.2.2]; rfl) h0
  · exact absurd (by rw [h.2.2.2.2]; rfl) h0
  · left; refine ⟨by rw [h.2.2.2.1]; rfl, by omega, by omega⟩
  · left; refine ⟨by rw [h.2.2.2.1]; rfl, by omega, by omega⟩
  · right; refine ⟨?_, by omega⟩
    have := h.2.2.2.1
    intro hh
    have := List.eq_nil_of_length_eq_zero hh
    simp_all
  · right; refine ⟨?_, by omega⟩
    have := h.2.2.2.1
    intro hh
    have := List.eq_nil_of_length_eq_zero hh
    simp_all
theorem path_ok {t : T} {m : Int} (hw : Wf t) (hm : m < 1000) (h : smallB t m = true) (hf : Fine [t]) : PathOk (nodesL [t] 0 [] []) 1000000000 := by
  have hs := small_out hw (by omega) h
  have hl : ∀ s ∈ [t], smallB s m = true := fun s hs => by rw [List.mem_singleton.1 hs]; exact h
  have hlen := nodesL_len [t] 0 [] [] hf.shp
  have hcl : cntL [t] = cnt t := by rw [cntL, cntL]; omega
  have hsl : T.sizeL [t] = t.size := by rw [T.sizeL, T.sizeL]; omega
  have hc := cnt_le t
  refine ⟨fine_nd hf, by omega, fun x hx r hr => ?_, fun x hx r hr => ?_, ?_, by omega⟩
  · have := nodesL_lt [t] m (by omega) 0 (cntL [t]) hf.wf hl (by omega) (by omega) x hx r hr
    omega
  · have := nodesL_shift [t] 0 hf.shp x hx r hr
    omega
  · refine nodesL_all (fun x => x.next.length ≠ 0 → (x.labels.length = 0 ∧ 2 ≤ x.next.length ∧ x.kind ≤ 5) ∨ (x.labels.length ≠ 0 ∧ (x.kind = 6 ∨ x.kind = 7))) (fun s a names refs hs h7 => ?_) [t] 0 [] [] hf.shp
    dsimp only
    rw [nextsL_length]
    exact shape_act hs.sh h7

theorem close_ok {N : List Nd} {S : Int} (h : PathOk N S) : NdOk (closeE N) ∧ ∀ x ∈ closeE N, ∀ r ∈ x.next, 0 ≤ r.node ∧ r.node < ((closeE N).length : Int) := by
  have hlen := closeE_len N
  have hl := h.len
  have key : ∀ x ∈ closeE N, (x.labels.length < 1000000000 ∧ x.next.length < 1000000000) ∧ ∀ r ∈ x.next, 0 ≤ r.node ∧ r.node < ((closeE N).length : Int) := by
    intro x hx
    unfold closeE at hx
    rcases List.mem_append.1 hx with hx | hx
    · exact ⟨h.nd.lists x hx, fun r hr => by have := h.refs x hx r hr; omega⟩
    · obtain ⟨y, hy, rfl⟩ := List.mem_map.1 hx
      refine ⟨⟨(h.nd.lists y hy).1, by show (upL _ _ _).length < _; rw [upL_len]; exact (h.nd.lists y hy).2⟩, fun r hr => ?_⟩
      obtain ⟨j, hj⟩ := List.mem_iff_getElem?.1 (show r ∈ upL y.kind N.length y.next from hr)
      rw [upL_get] at hj
      cases hk : y.next[j]? with
      | none => rw [hk] at hj; cases hj
      | some q =>
        rw [hk] at hj
        have := h.refs y hy q (List.mem_of_getElem? hk)
        injection hj with hj
        subst hj
        unfold upR
        split <;> (dsimp only; omega)
  exact ⟨⟨by omega, fun x hx => (key x hx).1, fun x hx r hr => by have := (key x hx).2 r hr; omega⟩, fun x hx => (key x hx).2⟩
theorem paths_run (t : T) (path : List Nat) (hw : Wf t) (hp : path.length < 1000000000000000) (hb : ∀ b ∈ path, b < 256) :
    RW 5 [.d t.data, .d (.sl 1 (path.map fun b => .int .u8 (b : Nat)))] [] = some (.d (.bool true), []) := by
  have ha := awake_run
  have hs := small_run t 60 hw (by omega) (by omega)
  have hse := session_run t
  refine runW_fn rfl rfl ?_
  unfold runFn c5
  rw [T.data_eq] at hs hse ⊢
  cases hsm : smallB t 60 with
  | false => simp only [go_sem, ha, hs, hsm]
  | true =>
    cases hsb : (!decide (t.kind = 1) && !decide (t.kind = 2)) with
    | false => rw [hsb] at hse; simp only [go_sem, ha, hs, hsm, hse]
    | true =>
      rw [hsb] at hse
      by_cases hp20 : 20 < path.length
      · have d0 : decide ((20 : Int) < (path.length : Int)) = true := decide_eq_true (by omega)
        simp only [go_sem, ha, hs, hsm, hse, d0]
      · have d0 : decide ((20 : Int) < (path.length : Int)) = false := decide_eq_false (by omega)
        have hfine := few_fine (l := [t]) (n := 1) (m := 60) (fun s hs => by rw [List.mem_singleton.1 hs]; exact hw) (by omega) (by omega) ⟨by simp, fun s hs => by rw [List.mem_singleton.1 hs]; exact hsm⟩
        have hg := graph_run [t] hfine
        have hok := path_ok hw (by omega) hsm hfine
        have hrt : nextsL [t] 0 [] [] = [⟨0, 0⟩] := by rw [nextsL, nextsL, refE_top hw (by omega) hsm]
        rw [hrt] at hg
        generalize nodesL [t] 0 [] [] = N at *
        have hcl := close_run N hok.nd
        have hcN := closeE_len N
        have hpos := hok.pos
        have hlen := hok.len
        have hbk := back_run (closeE N) (close_ok hok).1 (close_ok hok).2
        have hlp := pa_loop N 1000000000 (by omega) hok path (by omega) hb ⟨0, 0⟩ (by dsimp only; omega) rfl
        have hof := of_run (closeE N) ⟨0, 0⟩ (by omega) (by dsimp only; omega)
        have e1 : decide (((closeE N).length : Int) = 2 * (N.length : Int)) = true := decide_eq_true (by omega)
        have hw1 : IntKind.wrap .i64 (2 * (N.length : Int)) = 2 * (N.length : Int) := wrap64 (by omega) (by omega)
        rw [List.map_cons, List.map_nil, T.data_eq] at hg
        rw [Rf.data_eq] at hof
        generalize closeE N = C at *
        obtain ⟨e, hl2, hq⟩ := hlp
        rcases hq.out with ⟨fr, ob, nx, rfl, h4⟩ | ⟨fr, ob, nx, rfl, h4⟩
        · simp only [go_sem, ha, hs, hsm, hse, d0, hg, hcl, hbk, hw1, e1, Rf.data_eq, hof]
          refine obind_mk (Eq.trans (by kernel_rfl) hl2) ?_
          simp only [go_sem]
        · exact h4.elim
end Go.Proofs.YtijfioakpngdhaaDoor
