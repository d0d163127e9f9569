/- The walks: the closed graph. -/
import Derived.Test.YtijfioakpngdhaaDoorMF
namespace Go.Proofs.YtijfioakpngdhaaDoor
open Go.V
set_option maxRecDepth 100000
set_option linter.unusedSimpArgs false
set_option linter.unusedVariables false

theorem rest_run (k i : Int) : RW 42 [.d (.int .i64 k), .d (.int .i64 i)] [] = some (.d (.bool (decide (0 < i) || (decide (k = 6) || decide (k = 7)))), []) := by
  refine runW_fn rfl rfl ?_
  unfold runFn c42
  cases h1 : decide (0 < i) <;> cases h2 : decide (k = 6) <;> cases h3 : decide (k = 7) <;> simp only [go_sem, h1, h2, h3]

/-- what the closed graph's second half does with a reference -/
def upR (k : Int) (n i : Int) (r : Rf) : Rf := if 0 < i ∨ k = 6 ∨ k = 7 then ⟨r.node + n, r.shift⟩ else r
def impO (k p : Int) (ls nx : V.Data) (n : Int) : Objs := [(0, some (.box [.d (.int .i64 k), .d (.int .i64 p), .d ls, .d nx])), (1, some (.box [.d (.int .i64 n)]))]
theorem c41_run (k p : Int) (ls nx : V.Data) (n i : Int) (r : Rf) (hr : -1000000000000 ≤ r.node ∧ r.node ≤ 1000000000000) (hn : 0 ≤ n ∧ n ≤ 1000000000000) :
    RW 41 [.d (.int .i64 i), .d r.data, .ptr 0 0, .ptr 1 0] (impO k p ls nx n) = some (.d (upR k n i r).data, impO k p ls nx n) := by
  have h1 := rest_run k i
  have hrd : r.data = .agg [.int .i64 r.node, .int .i64 r.shift] := rfl
  refine runW_fn rfl rfl ?_
  unfold runFn c41 impO upR
  by_cases h : 0 < i ∨ k = 6 ∨ k = 7
  · have hb : (decide (0 < i) || (decide (k = 6) || decide (k = 7))) = true := by simpa using h
    rw [if_pos h, hrd]
    rw [hb] at h1
    simp only [go_sem, h1]
    rw [wrap64 (by omega) (by omega)]
    show _ = _
    kernel_rfl
  · have hb : (decide (0 < i) || (decide (k = 6) || decide (k = 7))) = false := by simpa using h
    rw [if_neg h, hrd]
    rw [hb] at h1
    simp only [go_sem, h1]
    show _ = _
    kernel_rfl

def upI (k p : Int) (ls nx : V.Data) (n : Int) (l : List Rf) (i : Nat) : St := ⟨[(1, .clos 41 [.ptr 0 0, .ptr 1 0]), (5, .own 2), (8, .d (.sl 2 (l.map Rf.data))), (9, .d (.int .i64 l.length)), (10, .d (.int .i64 i))],
  impO k p ls nx n ++ [(2, some (.arr 2 (((l.take i).mapIdx fun j r => (upR k n j r).data)) true))], 3, 2, false⟩
theorem up_step (k p : Int) (ls nx : V.Data) (n : Int) (l : List Rf) (hl : l.length < 1000000000) (hr : ∀ r ∈ l, -1000000000000 ≤ r.node ∧ r.node ≤ 1000000000000) (hn : 0 ≤ n ∧ n ≤ 1000000000000) (i : Nat) (hi : i < l.length) :
    ∃ s, exec att RW LW c40_l0 (upI k p ls nx n l i) = some (.normal, s) ∧ norm [1, 5, 8, 9, 10] s = upI k p ls nx n l (i + 1) := by
  have hi' : (i : Int) < l.length := by omega
  have hk : l[i]? = some l[i] := List.getElem?_eq_getElem hi
  have hu := c41_run k p ls nx n i l[i] (hr _ (List.getElem_mem hi)) hn
  have e1 : (l.take (i + 1)).mapIdx (fun j r => (upR k n j r).data) = (l.take i).mapIdx (fun j r => (upR k n j r).data) ++ [(upR k n i l[i]).data] := by
    rw [List.take_succ_eq_append_getElem hi, List.mapIdx_append]
    congr 1
    simp [List.length_take, Nat.min_eq_left (Nat.le_of_lt hi)]
  have hlt : ((l.take i).mapIdx (fun j r => (upR k n j r).data)).length = i := by rw [List.length_mapIdx, List.length_take]; omega
  generalize hx : l[i] = rf at hk hu e1
  have hrd : rf.data = .agg [.int .i64 rf.node, .int .i64 rf.shift] := rfl
  generalize hy : upR k n i rf = rg at hu e1
  have hrg : rg.data = .agg [.int .i64 rg.node, .int .i64 rg.shift] := rfl
  rw [hrg] at e1
  rw [hrd, hrg] at hu
  unfold impO at hu
  have hb1 : decide ((i + 1) * 16 ≤ 140737488355328) = true := by simp; omega
  refine ⟨?sx, ?g1, ?g2⟩
  case g1 =>
    unfold c40_l0 upI impO
    simp only [go_sem, hi', hk, hrd, hu, hlt, hb1]
    rfl
  case g2 =>
    rw [wrap64 (by omega) (by omega)]
    unfold upI impO
    rw [e1]
    show _ = _
    kernel_rfl

def upL (k : Int) (n : Int) (l : List Rf) : List Rf := l.mapIdx fun j r => upR k n j r
theorem c40_run (k p : Int) (ls nx : V.Data) (n : Int) (l : List Rf) (hl : l.length < 1000000000) (hr : ∀ r ∈ l, -1000000000000 ≤ r.node ∧ r.node ≤ 1000000000000) (hn : 0 ≤ n ∧ n ≤ 1000000000000) :
    RW 40 [.d (.sl 2 (l.map Rf.data)), .clos 41 [.ptr 0 0, .ptr 1 0]] (impO k p ls nx n) = some (.own 2, impO k p ls nx n ++ [(2, some (.arr 2 ((upL k n l).map Rf.data) true))]) := by
  have e : (upL k n l).map Rf.data = (l.take l.length).mapIdx fun j r => (upR k n j r).data := by
    unfold upL
    rw [List.take_length]
    apply List.ext_getElem?
    intro j
    simp [Option.map_map, Function.comp_def]
  rw [e]
  refine runW_fn rfl rfl ?_
  unfold runFn c40 impO
  simp only [go_sem]
  refine obind_mk (a := ?e) (Eq.trans (by kernel_rfl) (loop_from0 (vf := vf) (att := att) (ext := ext) (keep := [1, 5, 8, 9, 10]) (c := c40_l0) (I := upI k p ls nx n l) (n := l.length) ?hs ?he ?hn)) ?rest
  case hs => exact fun i hi => up_step k p ls nx n l hl hr hn i hi
  case he =>
    unfold c40_l0 upI impO
    simp only [go_sem]
    rfl
  case hn => intro h; cases h
  case rest =>
    simp only [go_sem]
    show _ = _
    kernel_rfl

/-- the dual node -/
def dualN (n : Int) (x : Nd) : Nd := ⟨kindD x.kind, x.prio, x.labels, upL x.kind n x.next⟩
theorem c39_run (n i : Int) (x : Nd) (hl : x.labels.length < 1000000000) (hl2 : x.next.length < 1000000000) (hr : ∀ r ∈ x.next, -1000000000000 ≤ r.node ∧ r.node ≤ 1000000000000) (hn : 0 ≤ n ∧ n ≤ 1000000000000) :
    RW 39 [.d (.int .i64 i), .d x.data, .ptr 0 0] [(0, some (.box [.d (.int .i64 n)]))] =
      some (.agg [.d (.int .i64 (kindD x.kind)), .d (.int .i64 x.prio), .own 1, .own 2], [(0, some (.box [.d (.int .i64 n)])), (1, some (.arr 1 (x.labels.map .str) true)), (2, some (.arr 2 ((upL x.kind n x.next).map Rf.data) true))]) := by
  have h1 := c40_run x.kind x.prio (.sl 1 (x.labels.map .str)) (.sl 2 (x.next.map Rf.data)) n x.next hl2 hr hn
  have h2 := kind_run x.kind
  have h3 := clone_run1 (x.labels.map .str) (sizes_str _) (by rw [List.length_map]; omega)
  have hx : x.data = .agg [.int .i64 x.kind, .int .i64 x.prio, .sl 1 (x.labels.map .str), .sl 2 (x.next.map Rf.data)] := rfl
  unfold impO at h1
  simp only [List.cons_append, List.nil_append] at h1
  refine runW_fn rfl rfl ?_
  unfold runFn c39
  rw [hx]
  simp only [go_sem, h1, h2, h3]
  show _ = _
  kernel_rfl

def duI (n : Int) (l : List Nd) (i : Nat) : St := ⟨[(1, .clos 39 [.ptr 0 0]), (5, .own 1), (8, .d (.sl 4 (l.map Nd.data))), (9, .d (.int .i64 l.length)), (10, .d (.int .i64 i))],
  [(0, some (.box [.d (.int .i64 n)])), (1, some (.arr 4 (((l.take i).map (dualN n)).map Nd.data) true))], 2, 1, false⟩
theorem du_step (n : Int) (l : List Nd) (h : NdOk l) (hn : 0 ≤ n ∧ n ≤ 1000000000000) (i : Nat) (hi : i < l.length) :
    ∃ s, exec att RW LW c35_l0 (duI n l i) = some (.normal, s) ∧ norm [1, 5, 8, 9, 10] s = duI n l (i + 1) := by
  have hlen := h.len
  have hi' : (i : Int) < l.length := by omega
  have hk : l[i]? = some l[i] := List.getElem?_eq_getElem hi
  have hm := List.getElem_mem hi
  have hu := c39_run n i l[i] (h.lists _ hm).1 (h.lists _ hm).2 (h.refs _ hm) hn
  have e1 : ((l.take (i + 1)).map (dualN n)).map Nd.data = ((l.take i).map (dualN n)).map Nd.data ++ [(dualN n l[i]).data] := by
    rw [List.take_succ_eq_append_getElem hi, List.map_append, List.map_append]; rfl
  generalize hx : l[i] = x at hk hu e1
  have hxd : x.data = .agg [.int .i64 x.kind, .int .i64 x.prio, .sl 1 (x.labels.map .str), .sl 2 (x.next.map Rf.data)] := rfl
  have hxe : (dualN n x).data = .agg [.int .i64 (kindD x.kind), .int .i64 x.prio, .sl 1 (x.labels.map .str), .sl 2 ((upL x.kind n x.next).map Rf.data)] := rfl
  rw [hxd] at hu
  rw [hxe] at e1
  have hlt : (l.take i).length = i := by rw [List.length_take]; omega
  have hb1 : decide ((i + 1) * 64 ≤ 140737488355328) = true := by simp; omega
  refine ⟨?sx, ?g1, ?g2⟩
  case g1 =>
    unfold c35_l0 duI
    simp only [go_sem, hi', hk, hxd, hu, hlt, hb1]
    rfl
  case g2 =>
    rw [wrap64 (by omega) (by omega)]
    unfold duI
    rw [e1]
    show _ = _
    kernel_rfl
theorem c35_dual (n : Int) (l : List Nd) (h : NdOk l) (hn : 0 ≤ n ∧ n ≤ 1000000000000) :
    RW 35 [.d (.sl 4 (l.map Nd.data)), .clos 39 [.ptr 0 0]] [(0, some (.box [.d (.int .i64 n)]))] = some (.own 1, [(0, some (.box [.d (.int .i64 n)])), (1, some (.arr 4 ((l.map (dualN n)).map Nd.data) true))]) := by
  refine runW_fn rfl rfl ?_
  unfold runFn c35
  simp only [go_sem]
  refine obind_mk (a := ?e) (Eq.trans (by kernel_rfl) (loop_from0 (vf := vf) (att := att) (ext := ext) (keep := [1, 5, 8, 9, 10]) (c := c35_l0) (I := duI n l) (n := l.length) ?hs ?he ?hn)) ?rest
  case hs => exact fun i hi => du_step n l h hn i hi
  case he =>
    unfold c35_l0 duI
    simp only [go_sem, List.take_length]
    rfl
  case hn => intro h; cases h
  case rest =>
    simp only [go_sem]
    show _ = _
    kernel_rfl

theorem c36_run (i : Int) (x : Nd) (hl : x.labels.length < 1000000000) (hl2 : x.next.length < 1000000000) :
    RW 36 [.d (.int .i64 i), .d x.data] [] = some (.agg [.d (.int .i64 x.kind), .d (.int .i64 x.prio), .own 0, .own 1], [(0, some (.arr 1 (x.labels.map .str) true)), (1, some (.arr 2 (x.next.map Rf.data) true))]) := by
  have h3 := clone_run1 (x.labels.map .str) (sizes_str _) (by rw [List.length_map]; omega)
  have h4 := clone_run2 (x.next.map Rf.data) (sizes_rf _) (by rw [List.length_map]; omega)
  have hx : x.data = .agg [.int .i64 x.kind, .int .i64 x.prio, .sl 1 (x.labels.map .str), .sl 2 (x.next.map Rf.data)] := rfl
  refine runW_fn rfl rfl ?_
  unfold runFn c36
  rw [hx]
  simp only [go_sem, h3, h4]
  show _ = _
  kernel_rfl
def smI (l : List Nd) (i : Nat) : St := ⟨[(1, .clos 36 []), (5, .own 0), (8, .d (.sl 4 (l.map Nd.data))), (9, .d (.int .i64 l.length)), (10, .d (.int .i64 i))],
  [(0, some (.arr 4 ((l.take i).map Nd.data) true))], 1, 0, false⟩
theorem sm_step (l : List Nd) (h : NdOk l) (i : Nat) (hi : i < l.length) : ∃ s, exec att RW LW c35_l0 (smI l i) = some (.normal, s) ∧ norm [1, 5, 8, 9, 10] s = smI l (i + 1) := by
  have hlen := h.len
  have hi' : (i : Int) < l.length := by omega
  have hk : l[i]? = some l[i] := List.getElem?_eq_getElem hi
  have hm := List.getElem_mem hi
  have hu := c36_run i l[i] (h.lists _ hm).1 (h.lists _ hm).2
  have e1 : (l.take (i + 1)).map Nd.data = (l.take i).map Nd.data ++ [l[i].data] := by
    rw [List.take_succ_eq_append_getElem hi, List.map_append]; rfl
  generalize hx : l[i] = x at hk hu e1
  have hxd : x.data = .agg [.int .i64 x.kind, .int .i64 x.prio, .sl 1 (x.labels.map .str), .sl 2 (x.next.map Rf.data)] := rfl
  rw [hxd] at hu e1
  have hlt : (l.take i).length = i := by rw [List.length_take]; omega
  have hb1 : decide ((i + 1) * 64 ≤ 140737488355328) = true := by simp; omega
  refine ⟨?sx, ?g1, ?g2⟩
  case g1 =>
    unfold c35_l0 smI
    simp only [go_sem, hi', hk, hxd, hu, hlt, hb1]
    rfl
  case g2 =>
    rw [wrap64 (by omega) (by omega)]
    unfold smI
    rw [e1]
    show _ = _
    kernel_rfl
theorem c35_same (l : List Nd) (h : NdOk l) : RW 35 [.d (.sl 4 (l.map Nd.data)), .clos 36 []] [] = some (.own 0, [(0, some (.arr 4 (l.map Nd.data) true))]) := by
  refine runW_fn rfl rfl ?_
  unfold runFn c35
  simp only [go_sem]
  refine obind_mk (a := ?e) (Eq.trans (by kernel_rfl) (loop_from0 (vf := vf) (att := att) (ext := ext) (keep := [1, 5, 8, 9, 10]) (c := c35_l0) (I := smI l) (n := l.length) ?hs ?he ?hn)) ?rest
  case hs => exact fun i hi => sm_step l h i hi
  case he =>
    unfold c35_l0 smI
    simp only [go_sem, List.take_length]
    rfl
  case hn => intro h; cases h
  case rest =>
    simp only [go_sem]
    show _ = _
    kernel_rfl

/-- the closed graph -/
def closeE (l : List Nd) : List Nd := l ++ l.map (dualN l.length)
theorem close_run (l : List Nd) (h : NdOk l) : RW 15 [.d (.agg [.sl 4 (l.map Nd.data)])] [] = some (.agg [.own 0], [(0, some (.arr 4 ((closeE l).map Nd.data) true))]) := by
  have hlen := h.len
  have h1 := c35_same l h
  have h2 := c35_dual l.length l h (by omega)
  have e : (closeE l).map Nd.data = l.map Nd.data ++ (l.map (dualN l.length)).map Nd.data := by unfold closeE; rw [List.map_append]
  have hb1 : decide ((l.length + l.length) * 64 ≤ 140737488355328) = true := by simp; omega
  have z1 := sizes_nd (l.map (dualN l.length))
  rw [e]
  refine runW_fn rfl rfl ?_
  unfold runFn c15
  simp only [go_sem, h1, h2, hb1, z1]
  show _ = _
  kernel_rfl
end Go.Proofs.YtijfioakpngdhaaDoor

namespace Go.Proofs.YtijfioakpngdhaaDoor
open Go.V
set_option maxRecDepth 100000
set_option linter.unusedSimpArgs false
set_option linter.unusedVariables false

theorem awake_run : RW 10 [] [] = some (.d (.bool true), []) := runW_mk (k := 40) (by kernel_rfl)

/-- the reference to the dual -/
def ofE (n : Nat) (r : Rf) : Rf := if r.node < ((n / 2 : Nat) : Int) then ⟨r.node + ((n / 2 : Nat) : Int), r.shift⟩ else ⟨r.node - ((n / 2 : Nat) : Int), r.shift⟩
theorem of_run (l : List Nd) (r : Rf) (hl : l.length < 1000000000) (hr : -1000000000000 ≤ r.node ∧ r.node ≤ 1000000000000) : RW 19 [.d (.agg [.sl 4 (l.map Nd.data)]), .d r.data] [] = some (.d (ofE l.length r).data, []) := by
  have hrd : r.data = .agg [.int .i64 r.node, .int .i64 r.shift] := rfl
  have hdiv : (l.length : Int).tdiv 2 = ((l.length / 2 : Nat) : Int) := by rw [Int.tdiv_eq_ediv_of_nonneg (by omega)]; omega
  have h2 : decide ((2 : Int) = 0) = false := rfl
  refine runW_fn rfl rfl ?_
  unfold runFn c19 ofE
  rw [hrd]
  by_cases h : r.node < ((l.length / 2 : Nat) : Int)
  · rw [if_pos h]
    simp only [go_sem, h2]
    rw [hdiv, wrap64 (by omega) (by omega)]
    simp only [go_sem, decide_eq_true h]
    rw [wrap64 (by omega) (by omega)]
    show _ = _
    kernel_rfl
  · rw [if_neg h]
    simp only [go_sem, h2]
    rw [hdiv, wrap64 (by omega) (by omega)]
    simp only [go_sem, decide_eq_false h]
    rw [wrap64 (by omega) (by omega)]
    show _ = _
    kernel_rfl
end Go.Proofs.YtijfioakpngdhaaDoor

namespace Go.Proofs.YtijfioakpngdhaaDoor
open Go.V
set_option maxRecDepth 100000
set_option linter.unusedSimpArgs false
set_option linter.unusedVariables false

theorem kindD_inv (k : Int) : kindD (kindD k) = k := by
  unfold kindD
  split
  · rename_i h; rw [if_neg (by omega), if_pos rfl, h]
  · split
    · rename_i h; rw [if_pos rfl, h]
    · split
      · rename_i h; rw [if_neg (by omega), if_neg (by omega), if_neg (by omega), if_pos rfl, h]
      · split
        · rename_i h; rw [if_neg (by omega), if_neg (by omega), if_pos rfl, h]
        · rename_i h1 h2 h3 h4; simp only [h1, h2, h3, h4, if_false]
theorem closeE_len (N : List Nd) : (closeE N).length = N.length + N.length := by unfold closeE; rw [List.length_append, List.length_map]
theorem close_pair (N : List Nd) (q : Nat) (hq : q < N.length + N.length) (h1 : 1 ≤ N.length) (sh : Int) : ∃ (d : Nat) (x y : Nd), d < N.length + N.length ∧ d ≠ q ∧ ofE (closeE N).length ⟨(q : Int), sh⟩ = ⟨(d : Int), sh⟩ ∧ ofE (closeE N).length ⟨(d : Int), sh⟩ = ⟨(q : Int), sh⟩ ∧
    (closeE N)[d]? = some x ∧ (closeE N)[q]? = some y ∧ x.kind = kindD y.kind ∧ x.prio = y.prio := by
  have hdiv : (closeE N).length / 2 = N.length := by rw [closeE_len]; omega
  have lo : ∀ i, i < N.length → (closeE N)[i]? = N[i]? := fun i hi => by unfold closeE; rw [List.getElem?_append_left hi]
  have hi : ∀ i, i < N.length → (closeE N)[i + N.length]? = (N[i]?).map (dualN N.length) := fun i hi => by
    unfold closeE; rw [List.getElem?_append_right (by omega), List.getElem?_map]; congr 2; omega
  unfold ofE
  rw [hdiv]
  by_cases h : q < N.length
  · have hk : N[q]? = some N[q] := List.getElem?_eq_getElem h
    refine ⟨q + N.length, dualN N.length N[q], N[q], by omega, by omega, ?_, ?_, by rw [hi q h, hk]; rfl, by rw [lo q h, hk], rfl, rfl⟩
    · dsimp only; rw [if_pos (by omega)]; congr 1
    · dsimp only; rw [if_neg (by omega)]; congr 1; omega
  · obtain ⟨i, rfl⟩ : ∃ i, q = i + N.length := ⟨q - N.length, by omega⟩
    have hil : i < N.length := by omega
    have hk : N[i]? = some N[i] := List.getElem?_eq_getElem hil
    refine ⟨i, N[i], dualN N.length N[i], by omega, by omega, ?_, ?_, by rw [lo i hil, hk], by rw [hi i hil, hk]; rfl, (kindD_inv _).symm, rfl⟩
    · dsimp only; rw [if_neg (by omega)]; congr 1; omega
    · dsimp only; rw [if_pos (by omega)]; congr 1

theorem involution_run (l : List T) (k sh : Int) (hl : l.length < 1000000000) (hw : ∀ t ∈ l, Wf t) (hk : 0 ≤ k ∧ k < 256) (hsh : -32768 ≤ sh ∧ sh < 32768) :
    RW 4 [.d (.sl 6 (l.map T.data)), .d (.int .u8 k), .d (.int .i16 sh)] [] = some (.d (.bool true), []) := by
  have ha := awake_run
  obtain ⟨b, hf, hb⟩ := fews_run l 5 60 hl hw (by omega) (by omega)
  refine runW_fn rfl rfl ?_
  unfold runFn c4
  cases b with
  | false => simp only [go_sem, ha, hf]
  | true =>
    cases l with
    | nil =>
      simp only [List.map_nil] at hf ⊢
      simp only [go_sem, ha, hf]
    | cons t l =>
      have hfew := hb.1 rfl
      have hfine := few_fine hw (by omega) (by omega) hfew
      have hg := graph_run (t :: l) hfine
      have hok := fine_nd hfine
      have hlen := nodesL_len (t :: l) 0 [] [] hfine.shp
      have hcnt : 1 ≤ cntL (t :: l) := by
        have := (small_out (hw t List.mem_cons_self) (by omega) (hfew.2 t List.mem_cons_self)).2.2
        rw [cntL]; omega
      have hc2 := cntL_size (t :: l)
      have hsz := hfine.size
      generalize hll : t :: l = ll at *
      have hll0 : decide ((ll.length : Int) = 0) = false := by rw [← hll]; simp; omega
      generalize nodesL ll 0 [] [] = N at *
      have hcl := close_run N hok
      have hcN := closeE_len N
      obtain ⟨d, x, y, h1, h2, h3, h4, h5, h6, h7, h8⟩ := close_pair N (k.toNat % (closeE N).length) (by rw [hcN]; exact Nat.mod_lt _ (by omega)) (by omega) sh
      have hq : k.tmod ((closeE N).length : Int) = ((k.toNat % (closeE N).length : Nat) : Int) := by
        rw [Int.tmod_eq_emod_of_nonneg hk.1, Int.natCast_emod, Int.toNat_of_nonneg hk.1]
      generalize hqq : k.toNat % (closeE N).length = q at *
      have hql : q < (closeE N).length := by rw [← hqq, hcN]; exact Nat.mod_lt _ (by omega)
      have ho1 := of_run (closeE N) ⟨(q : Int), sh⟩ (by omega) (by dsimp only; omega)
      have ho2 := of_run (closeE N) ⟨(d : Int), sh⟩ (by omega) (by dsimp only; omega)
      rw [h3] at ho1
      rw [h4] at ho2
      generalize hC : closeE N = C at *
      have hxd : x.data = .agg [.int .i64 x.kind, .int .i64 x.prio, .sl 1 (x.labels.map .str), .sl 2 (x.next.map Rf.data)] := rfl
      have hyd : y.data = .agg [.int .i64 y.kind, .int .i64 y.prio, .sl 1 (y.labels.map .str), .sl 2 (y.next.map Rf.data)] := rfl
      have hkr := kind_run y.kind
      have hC0 : decide ((C.length : Int) = 0) = false := decide_eq_false (by omega)
      have hdl : d < C.length := by omega
      have hdl' : decide ((d : Int) < 0) = false := decide_eq_false (by omega)
      have hdl2 : decide ((C.length : Int) ≤ (d : Int)) = false := decide_eq_false (by omega)
      have hne : decide (d = q) = false := decide_eq_false h2
      have e1 : decide ((C.length : Int) = 2 * (N.length : Int)) = true := decide_eq_true (by omega)
      have hw1 : IntKind.wrap .i64 (2 * (N.length : Int)) = 2 * (N.length : Int) := wrap64 (by omega) (by omega)
      have hw2 : IntKind.wrap .i64 k = k := wrap64 (by omega) (by omega)
      have hw3 : IntKind.wrap .i64 sh = sh := wrap64 (by omega) (by omega)
      unfold Rf.data at ho1 ho2
      simp only [go_sem, ha, hf, hll0, hg, hcl, hw1, e1, hw2, hw3, hC0, hq, ho1, ho2, hdl', hdl2, hdl, hql, hne, h5, h6, h7, h8, hxd, hyd, hkr]
end Go.Proofs.YtijfioakpngdhaaDoor
