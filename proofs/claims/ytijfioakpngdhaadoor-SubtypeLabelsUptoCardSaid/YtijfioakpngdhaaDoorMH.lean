/- What the nodes of a graph of right types are like; the walks of the heads. -/
import Derived.Test.YtijfioakpngdhaaDoorMG
namespace Go.Proofs.YtijfioakpngdhaaDoor
open Go.V
set_option maxRecDepth 100000
set_option linter.unusedSimpArgs false
set_option linter.unusedVariables false

/-- the fields of a node -/
structure NS (x : Nd) : Prop where
  low : 1 ≤ x.kind ∧ x.kind ≤ 7
  prio : 0 ≤ x.prio ∧ x.prio ≤ 1000000
  leaf : x.kind ≤ 3 → x.next = [] ∧ x.labels = [] ∧ x.prio = 0
  send : x.kind = 4 ∨ x.kind = 5 → x.labels = [] ∧ x.next.length = 2
  sel : x.kind = 6 ∨ x.kind = 7 → x.labels ≠ [] ∧ x.next.length = x.labels.length
  nodup : x.labels.Nodup
theorem lab_nodup {t : T} (hw : Wf t) (h : labB t.labels = true) : t.labels.Nodup := ((lab_run t.labels hw.labLen hw.labLens).2.1 h).2
theorem prioB_out {n : Int} (h : prioB n = true) : 0 ≤ n ∧ n ≤ 1000000 := by
  unfold prioB at h
  simp only [Bool.and_eq_true, decide_eq_true_eq] at h
  exact h
theorem shape_ns {t : T} (hw : Wf t) (h : shapeB t = true) (h7 : t.kind ≤ 7) (next : List Rf) (hn : next.length = t.kids.length) : NS ⟨t.kind, t.prio, t.labels, next⟩ := by
  have hk := shape_kinds h
  unfold shapeB at h
  have : t.kind = 1 ∨ t.kind = 2 ∨ t.kind = 3 ∨ t.kind = 4 ∨ t.kind = 5 ∨ t.kind = 6 ∨ t.kind = 7 := by omega
  have leafy : t.prio = 0 → t.labels = [] → t.kids = [] → t.kind ≤ 3 → NS ⟨t.kind, t.prio, t.labels, next⟩ := fun h1 h2 h3 h4 =>
    ⟨⟨hk.1, h7⟩, by show 0 ≤ t.prio ∧ t.prio ≤ 1000000; omega, fun _ => ⟨List.eq_nil_of_length_eq_zero (by rw [h3] at hn; exact hn), h2, h1⟩, fun h => by exfalso; dsimp only at h; omega, fun h => by exfalso; dsimp only at h; omega, by show t.labels.Nodup; rw [h2]; exact List.nodup_nil⟩
  rcases this with e | e | e | e | e | e | e
  · simp [e] at h; exact leafy h.1 h.2.2.2.1 h.2.2.2.2 (by omega)
  · simp [e] at h; exact leafy h.1 h.2.2.2.1 h.2.2.2.2 (by omega)
  · simp [e] at h; exact leafy h.1 h.2.2.2.1 h.2.2.2.2 (by omega)
  · simp [e] at h
    exact ⟨⟨hk.1, h7⟩, prioB_out h.1, fun h' => by exfalso; dsimp only at h'; omega, fun _ => ⟨h.2.2.2.1, by show next.length = 2; omega⟩, fun h' => by exfalso; dsimp only at h'; omega, by show t.labels.Nodup; rw [h.2.2.2.1]; exact List.nodup_nil⟩
  · simp [e] at h
    exact ⟨⟨hk.1, h7⟩, prioB_out h.1, fun h' => by exfalso; dsimp only at h'; omega, fun _ => ⟨h.2.2.2.1, by show next.length = 2; omega⟩, fun h' => by exfalso; dsimp only at h'; omega, by show t.labels.Nodup; rw [h.2.2.2.1]; exact List.nodup_nil⟩
  · simp [e] at h
    exact ⟨⟨hk.1, h7⟩, prioB_out h.1, fun h' => by exfalso; dsimp only at h'; omega, fun h' => by exfalso; dsimp only at h'; omega, fun _ => ⟨fun hh => by have := h.2.2.2.1; simp_all, by show next.length = t.labels.length; omega⟩, lab_nodup hw h.2.2.2.2.1⟩
  · simp [e] at h
    exact ⟨⟨hk.1, h7⟩, prioB_out h.1, fun h' => by exfalso; dsimp only at h'; omega, fun h' => by exfalso; dsimp only at h'; omega, fun _ => ⟨fun hh => by have := h.2.2.2.1; simp_all, by show next.length = t.labels.length; omega⟩, lab_nodup hw h.2.2.2.2.1⟩

/-- all types below are well formed -/
theorem nodesE_ns (t : T) : ∀ (a : Int) (names : List (List UInt8)) (refs : List Rf), Shp t → Wf t → ∀ x ∈ nodesE t a names refs, NS x := by
  induction t using T.ind with
  | h t ih =>
  intro a names refs hs hw n hn
  have hL : ∀ (l : List T) (a : Int), (∀ s ∈ l, s ∈ t.kids) → ∀ n ∈ nodesL l a names refs, NS n := by
    intro l
    induction l with
    | nil => intro _ _ n hn; cases hn
    | cons x l ihl =>
      intro a hx n hn
      rw [nodesL] at hn
      rcases List.mem_append.1 hn with hn | hn
      · exact ih x (hx x List.mem_cons_self) _ _ _ (hs.kid x (hx x List.mem_cons_self)) (hw.kid (hx x List.mem_cons_self)) n hn
      · exact ihl _ (fun s h => hx s (List.mem_cons_of_mem _ h)) n hn
  have hk := shape_kinds hs.sh
  rw [nodesE_eq] at hn
  by_cases h8 : t.kind = 8
  · obtain ⟨s, hks⟩ := hs.one h8
    have hm : s ∈ t.kids := by rw [hks]; exact List.mem_singleton.2 rfl
    rw [if_pos h8, hks, nodes1] at hn
    exact ih s hm _ _ _ (hs.kid s hm) (hw.kid hm) n hn
  · rw [if_neg h8] at hn
    by_cases h9 : t.kind = 9
    · rw [if_pos h9] at hn; cases hn
    · rw [if_neg h9] at hn
      rcases List.mem_cons.1 hn with hn | hn
      · subst hn
        exact shape_ns hw hs.sh (by omega) _ (nextsL_len names refs t.kids _)
      · exact hL _ _ (fun s h => h) n hn
theorem nodesL_ns (l : List T) : ∀ (a : Int), (∀ t ∈ l, Shp t) → (∀ t ∈ l, Wf t) → ∀ x ∈ nodesL l a [] [], NS x := by
  induction l with
  | nil => intro _ _ _ n hn; cases hn
  | cons x l ihl =>
    intro a hs hw n hn
    rw [nodesL] at hn
    rcases List.mem_append.1 hn with hn | hn
    · exact nodesE_ns x _ _ _ (hs x List.mem_cons_self) (hw x List.mem_cons_self) n hn
    · exact ihl _ (fun s h => hs s (List.mem_cons_of_mem _ h)) (fun s h => hw s (List.mem_cons_of_mem _ h)) n hn

/-- a graph whose nodes are right, whose references are to its nodes -/
structure GOk (N : List Nd) (B : Int) : Prop where
  nd : NdOk N
  ns : ∀ x ∈ N, NS x
  refs : ∀ x ∈ N, ∀ r ∈ x.next, 0 ≤ r.node ∧ r.node < N.length
  shifts : ∀ x ∈ N, ∀ r ∈ x.next, 0 ≤ r.shift ∧ r.shift ≤ B
  pos : 0 ≤ B
  small : N.length ≤ 10000 ∧ B ≤ 1000000000
theorem graph_okR {l : List T} (hn : l.length ≤ 100) (hs : ∀ t ∈ l, Rgt t) (hl : T.sizeL l ≤ 1000) : GOk (nodesL l 0 [] []) 1000000000 := by
  have hf := fineR hs (by omega)
  have hlen := nodesL_len l 0 [] [] hf.shp
  have hc := cntL_size l
  refine ⟨fine_nd hf, nodesL_ns l 0 hf.shp hf.wf, fun x hx r hr => ?_, fun x hx r hr => ?_, by omega, by omega, by omega⟩
  · have := nodesL_ltR l 0 (cntL l) hs (by omega) (by omega) x hx r hr
    omega
  · have := nodesL_shift l 0 hf.shp x hx r hr
    omega
theorem graph_ok {l : List T} {m : Int} (hm : m < 1000) (hn : l.length ≤ 100) (hw : ∀ t ∈ l, Wf t) (hs : ∀ t ∈ l, smallB t m = true) (hl : T.sizeL l ≤ 1000) : GOk (nodesL l 0 [] []) 1000000000 :=
  graph_okR hn (fun t ht => small_rgt (hw t ht) (by omega) (hs t ht)) hl

/-! ### the walks -/
def actB (k : Int) : Bool := decide (4 ≤ k) && decide (k ≤ 7)
theorem action_run (k : Int) : RW 69 [.d (.int .i64 k)] [] = some (.d (.bool (actB k)), []) := by
  refine runW_fn rfl rfl ?_
  unfold runFn c69 actB
  simp only [go_sem]
  refine gsplit (fun h => ?_) (fun h => ?_) <;> simp only [go_sem, *]
def prioE (x : Nd) (r : Rf) : Int := if actB x.kind = true then IntKind.wrap .i64 (x.prio + r.shift) else 0
theorem prio_runH (N : List Nd) (r : Rf) (x : Nd) (h0 : 0 ≤ r.node) (hx : N[r.node.toNat]? = some x) :
    RW 54 [.d (.agg [.sl 4 (N.map Nd.data)]), .d r.data] [] = some (.tup [.d (.int .i64 (prioE x r)), .d (.bool (actB x.kind))], []) := by
  have ha := action_run x.kind
  have d0 : decide (0 ≤ r.node) = true := decide_eq_true h0
  refine runW_fn rfl rfl ?_
  unfold runFn c54 prioE
  rw [Rf.data_eq]
  cases hb : actB x.kind with
  | true =>
    rw [hb] at ha
    rw [if_pos rfl]
    simp only [go_sem, d0, hx, Nd.data_eq, ha]
    show _ = _
    kernel_rfl
  | false =>
    rw [hb] at ha
    rw [if_neg (by decide)]
    simp only [go_sem, d0, hx, Nd.data_eq, ha]
    show _ = _
    kernel_rfl
def upRf (r : Rf) (k : Int) : Rf := ⟨r.node, IntKind.wrap .i64 (r.shift + k)⟩
theorem raise_runH (r : Rf) (k : Int) : RW 80 [.d r.data, .d (.int .i64 k)] [] = some (.d (upRf r k).data, []) := by
  refine runW_fn rfl rfl ?_
  unfold runFn c80 upRf
  rw [Rf.data_eq]
  simp only [go_sem]
  show _ = _
  kernel_rfl
theorem next_runH (N : List Nd) (r : Rf) (x : Nd) (i : Nat) (rf : Rf) (h0 : 0 ≤ r.node) (hx : N[r.node.toNat]? = some x) (hi : x.next[i]? = some rf) (hl : x.next.length < 1000000000) :
    RW 72 [.d (.agg [.sl 4 (N.map Nd.data)]), .d r.data, .d (.int .i64 i)] [] = some (.tup [.d (upRf rf r.shift).data, .d (.bool true)], []) := by
  have hr := raise_runH rf r.shift
  have d0 : decide (0 ≤ r.node) = true := decide_eq_true h0
  have hil := (List.getElem?_eq_some_iff.1 hi).1
  have d1 : decide ((i : Int) < 0) = false := decide_eq_false (by omega)
  have d2 : decide ((x.next.length : Int) ≤ (i : Int)) = false := decide_eq_false (by omega)
  generalize upRf rf r.shift = q at hr ⊢
  rw [Rf.data_eq, Rf.data_eq] at hr
  refine runW_fn rfl rfl ?_
  unfold runFn c72
  rw [Rf.data_eq, Rf.data_eq]
  simp only [go_sem, d0, hx, Nd.data_eq, d1, d2, hi, Rf.data_eq, hr]
  show _ = _
  kernel_rfl
theorem next_runN (N : List Nd) (r : Rf) (x : Nd) (i : Int) (h0 : 0 ≤ r.node) (hx : N[r.node.toNat]? = some x) (hi : i < 0 ∨ x.next.length ≤ i) :
    RW 72 [.d (.agg [.sl 4 (N.map Nd.data)]), .d r.data, .d (.int .i64 i)] [] = some (.tup [.d (.agg [.int .i64 0, .int .i64 0]), .d (.bool false)], []) := by
  have d0 : decide (0 ≤ r.node) = true := decide_eq_true h0
  refine runW_fn rfl rfl ?_
  unfold runFn c72
  rw [Rf.data_eq]
  cases hn : decide (i < 0) with
  | true =>
    simp only [go_sem, d0, hx, Nd.data_eq, hn]
    show _ = _
    kernel_rfl
  | false =>
    have d2 : decide ((x.next.length : Int) ≤ i) = true := decide_eq_true (by rcases hi with hi | hi; exact absurd hi (of_decide_eq_false hn); exact hi)
    simp only [go_sem, d0, hx, Nd.data_eq, hn, d2]
    show _ = _
    kernel_rfl

/-- the first place of a text in a list -/
def idx? : List (List UInt8) → List UInt8 → Option Nat
  | [], _ => none
  | y :: l, x => if y = x then some 0 else (idx? l x).map (· + 1)
theorem idx_get : ∀ {l : List (List UInt8)} {x : List UInt8} {k : Nat}, idx? l x = some k → l[k]? = some x
  | [], _, _, h => by cases h
  | y :: l, x, k, h => by
    rw [idx?] at h
    split at h
    · rename_i e; injection h with h; subst h; rw [e]; rfl
    · cases hr : idx? l x with
      | none => rw [hr] at h; cases h
      | some j =>
        rw [hr] at h
        injection h with h
        subst h
        show l[j]? = some x
        exact idx_get hr
theorem idx_mem : ∀ {l : List (List UInt8)} {x : List UInt8}, x ∈ l → ∃ k, idx? l x = some k
  | y :: l, x, h => by
    rw [idx?]
    by_cases e : y = x
    · exact ⟨0, by rw [if_pos e]⟩
    · rw [if_neg e]
      rcases List.mem_cons.1 h with h | h
      · exact absurd h.symm e
      · obtain ⟨k, hk⟩ := idx_mem h
        exact ⟨k + 1, by rw [hk]; rfl⟩
theorem idx_none {l : List (List UInt8)} {x : List UInt8} (h : idx? l x = none) : x ∉ l := fun hm => by
  obtain ⟨k, hk⟩ := idx_mem hm
  rw [h] at hk; cases hk
theorem idx_nodup : ∀ {l : List (List UInt8)} {x : List UInt8} {k : Nat}, l.Nodup → l[k]? = some x → idx? l x = some k
  | y :: l, x, k, hd, h => by
    rw [idx?]
    rw [List.nodup_cons] at hd
    cases k with
    | zero => injection h with h; rw [if_pos h]
    | succ k =>
      have hm : x ∈ l := List.mem_of_getElem? (show l[k]? = some x from h)
      rw [if_neg (fun e : y = x => hd.1 (e ▸ hm)), idx_nodup hd.2 (show l[k]? = some x from h)]; rfl
def idxI (l : List (List UInt8)) (x : List UInt8) : Int := match idx? l x with | some k => k | none => -1
theorem idx_drop : ∀ (l : List (List UInt8)) (x : List UInt8) (i : Nat) (y : List UInt8), l[i]? = some y → idx? (l.drop i) x = if y = x then some 0 else (idx? (l.drop (i + 1)) x).map (· + 1) := by
  intro l x i y h
  obtain ⟨hi, hy⟩ := List.getElem?_eq_some_iff.1 h
  rw [List.drop_eq_getElem_cons hi, hy]; rfl
def ixI (l : List (List UInt8)) (x : List UInt8) (i : Nat) : St := ⟨[(0, .d (.sl 1 (l.map .str))), (1, .d (.str x)), (7, .d (.int .i64 l.length)), (8, .d (.int .i64 i))], [], 0, 0, false⟩
theorem index_run (l : List (List UInt8)) (x : List UInt8) (hl : l.length < 1000000000) : RW 71 [.d (.sl 1 (l.map .str)), .d (.str x)] [] = some (.d (.int .i64 (idxI l x)), []) := by
  obtain ⟨e, h2, hq⟩ := loop_p (keep := [0, 1, 7, 8]) (c := c71_l0) (I := ixI l x) (n := l.length) (P := fun i => idx? l x = (idx? (l.drop i) x).map (· + i)) (Q := QE (fun _ => idx? l x = none) 0 (fun fr => fget fr 4 = .d (.int .i64 (idxI l x)))) (fun i hi hp => by
    have hi' : (i : Int) < l.length := by omega
    have hk : l[i]? = some l[i] := List.getElem?_eq_getElem hi
    rw [idx_drop l x i _ hk] at hp
    by_cases h : x = l[i]
    · have hd := decide_eq_true h
      rw [if_pos h.symm] at hp
      refine .inr ⟨?e1, ?g1, ?g2, ?g3⟩
      case g1 =>
        unfold c71_l0 ixI
        simp only [go_sem, hi', hk, hd]
        rfl
      case g2 => intro h; cases h
      case g3 =>
        refine ⟨.inr ⟨rfl, ?_⟩, rfl, rfl⟩
        unfold idxI
        rw [hp]
        show AV.d (.int .i64 ((i : Nat) : Int)) = AV.d (.int .i64 ((0 + i : Nat) : Int))
        rw [Nat.zero_add]
    · have hd := decide_eq_false h
      rw [if_neg (fun e => h e.symm)] at hp
      refine .inl ⟨?s1, ?g1, ?g2, ?g3⟩
      case g1 =>
        unfold c71_l0 ixI
        simp only [go_sem, hi', hk, hd]
        rfl
      case g2 =>
        rw [wrap64 (by omega) (by omega)]
        unfold ixI
        show _ = _
        kernel_rfl
      case g3 =>
        rw [hp, Option.map_map]
        congr 1
        funext j
        show j + 1 + i = j + (i + 1)
        omega) (fun hp => by
    refine ⟨?e, ?g1, ?g2, ?g3⟩
    case g1 =>
      unfold c71_l0 ixI
      simp only [go_sem]
      rfl
    case g2 => intro h; cases h
    case g3 =>
      refine ⟨.inl ⟨rfl, ?_⟩, rfl, rfl⟩
      rw [hp, List.drop_length]; rfl) l.length 0 (by omega) (by rw [List.drop_zero]; cases idx? l x <;> rfl)
  refine runW_fn rfl rfl ?_
  unfold runFn c71
  simp only [go_sem]
  rcases hq.out with ⟨fr, ob, nx, rfl, h4⟩ | ⟨fr, ob, nx, rfl, h4⟩
  · refine obind_mk (Eq.trans (by kernel_rfl) h2) ?_
    unfold idxI
    rw [h4]
    simp only [go_sem]
  · refine obind_mk (Eq.trans (by kernel_rfl) h2) ?_
    simp only [go_sem, h4]
end Go.Proofs.YtijfioakpngdhaaDoor

namespace Go.Proofs.YtijfioakpngdhaaDoor
open Go.V
set_option maxRecDepth 100000
set_option linter.unusedSimpArgs false
set_option linter.unusedVariables false

abbrev K3 := Int × Int × Int
def keyD (k : K3) : V.Data := .agg [.int .i64 k.1, .int .i64 k.2.1, .int .i64 k.2.2]
def esOf (L : List K3) : List (V.Data × V.Data) := L.map fun k => (keyD k, .bool true)
def ndf (free : Bool) (d : Int) : Int := if free = true then 0 else d
def key3 (free : Bool) (a b : Rf) : K3 := (a.node, b.node, ndf free (a.shift - b.shift))
@[go_sem] theorem z_eq3 (a b c a' b' c' : Int) : eqCells [.int .i64 a, .int .i64 b, .int .i64 c] [.int .i64 a', .int .i64 b', .int .i64 c'] = some (decide (a = a') && (decide (b = b') && (decide (c = c') && true))) := rfl
@[go_sem] theorem z_kt3 (a b c : Int) : KT.ok (.many [0, 0, 0]) (.agg [.int .i64 a, .int .i64 b, .int .i64 c]) = true := rfl
theorem eq_keyD (k l : K3) : eqData (keyD k) (keyD l) = some (decide (k = l)) := by
  obtain ⟨a, b, c⟩ := k
  obtain ⟨a', b', c'⟩ := l
  show some (decide (a = a') && (decide (b = b') && (decide (c = c') && true))) = _
  by_cases h1 : a = a' <;> by_cases h2 : b = b' <;> by_cases h3 : c = c' <;> simp [h1, h2, h3]
theorem mapGet_es (k : K3) : ∀ L, mapGet (keyD k) (esOf L) = some (if k ∈ L then some (.bool true) else none)
  | [] => rfl
  | l :: L => by
    show mapGet (keyD k) ((keyD l, .bool true) :: esOf L) = _
    rw [mapGet, eq_keyD]
    by_cases h : k = l
    · rw [decide_eq_true h, if_pos (by rw [h]; exact List.mem_cons_self)]
    · rw [decide_eq_false h]
      dsimp only
      rw [mapGet_es k L]
      by_cases hm : k ∈ L
      · rw [if_pos hm, if_pos (List.mem_cons_of_mem _ hm)]
      · rw [if_neg hm, if_neg (fun hh => by rcases List.mem_cons.1 hh with e | e; exact h e; exact hm e)]
theorem mapPut_es (k : K3) : ∀ L, k ∉ L → mapPut (keyD k) (.bool true) (esOf L) = some (esOf (L ++ [k]))
  | [], _ => rfl
  | l :: L, h => by
    show mapPut (keyD k) (.bool true) ((keyD l, .bool true) :: esOf L) = _
    rw [mapPut, eq_keyD, decide_eq_false (fun e => h (by rw [e]; exact List.mem_cons_self))]
    dsimp only
    rw [mapPut_es k L fun hm => h (List.mem_cons_of_mem _ hm)]; rfl

/-- the place of a node's reference in another node -/
def kIdx (x y : Nd) (i : Nat) : Option Nat := if x.labels.length = 0 then some i else match x.labels[i]? with | some s => idx? y.labels s | none => none
/-- a pair fits, and the pairs behind it are in a set -/
def LocOk (N : List Nd) (free : Bool) (p : K3) (S : K3 → Prop) : Prop := ∃ x y, 0 ≤ p.1 ∧ 0 ≤ p.2.1 ∧ N[p.1.toNat]? = some x ∧ N[p.2.1.toNat]? = some y ∧ x.kind = y.kind ∧ x.labels.length = y.labels.length ∧
  (free = false → actB x.kind = true → x.prio + p.2.2 = y.prio) ∧ ∀ (i : Nat) (r : Rf), x.next[i]? = some r → ∃ k q, kIdx x y i = some k ∧ y.next[k]? = some q ∧ S (r.node, q.node, ndf free (p.2.2 + r.shift - q.shift))
theorem LocOk.mono {N : List Nd} {free : Bool} {p : K3} {S S' : K3 → Prop} (h : LocOk N free p S) (hs : ∀ q, S q → S' q) : LocOk N free p S' := by
  obtain ⟨x, y, h1, h2, h3, h4, h5, h6, h7, h8⟩ := h
  refine ⟨x, y, h1, h2, h3, h4, h5, h6, h7, fun i r hr => ?_⟩
  obtain ⟨k, q, h9, h10, h11⟩ := h8 i r hr
  exact ⟨k, q, h9, h10, hs _ h11⟩
/-- two references are equal: a set of pairs holds theirs, and each of its pairs fits -/
def EqP (N : List Nd) (free : Bool) (p : K3) : Prop := ∃ R : K3 → Prop, (∀ q, R q → LocOk N free q R) ∧ R p
theorem EqP.loc {N : List Nd} {free : Bool} {p : K3} (h : EqP N free p) : LocOk N free p (EqP N free) := by
  obtain ⟨R, h1, h2⟩ := h
  exact (h1 p h2).mono fun q hq => ⟨R, h1, hq⟩

/-! ### how many pairs are left -/
def pairOf (N : List Nd) (free : Bool) (i j : Nat) : K3 := ((i : Int), (j : Int), ndf free ((N[j]?.getD default).prio - (N[i]?.getD default).prio))
def allK (N : List Nd) (free : Bool) : List K3 := (List.range N.length).flatMap fun i => (List.range N.length).map fun j => pairOf N free i j
theorem mem_allK {N : List Nd} {free : Bool} {i j : Nat} (hi : i < N.length) (hj : j < N.length) : pairOf N free i j ∈ allK N free :=
  List.mem_flatMap.2 ⟨i, List.mem_range.2 hi, List.mem_map.2 ⟨j, List.mem_range.2 hj, rfl⟩⟩
theorem sum_const (n c : Nat) : ∀ l : List Nat, (l.map fun _ => c).sum = l.length * c
  | [] => by simp
  | _ :: l => by rw [List.map_cons, List.sum_cons, sum_const n c l, List.length_cons, Nat.succ_mul]; omega
theorem len_allK (N : List Nd) (free : Bool) : (allK N free).length = N.length * N.length := by
  unfold allK
  rw [List.length_flatMap]
  have : (List.range N.length).map (fun i => ((List.range N.length).map fun j => pairOf N free i j).length) = (List.range N.length).map fun _ => N.length := by
    refine List.map_congr_left fun i _ => ?_
    rw [List.length_map, List.length_range]
  rw [this, sum_const N.length, List.length_range]
def muL (N : List Nd) (free : Bool) (L : List K3) : Nat := (allK N free).countP fun k => decide (k ∉ L)
theorem countP_lt {α : Type} {p q : α → Bool} : ∀ {l : List α} {x : α}, (∀ y ∈ l, q y = true → p y = true) → x ∈ l → p x = true → q x = false → l.countP q < l.countP p
  | y :: l, x, h, hx, hp, hq => by
    have hle : l.countP q ≤ l.countP p := List.countP_mono_left fun z hz hh => h z (List.mem_cons_of_mem _ hz) hh
    rw [List.countP_cons, List.countP_cons]
    rcases List.mem_cons.1 hx with e | hx
    · subst e
      rw [hp, hq]; simp; omega
    · have := countP_lt (l := l) (fun z hz hh => h z (List.mem_cons_of_mem _ hz) hh) hx hp hq
      have hy := h y List.mem_cons_self
      cases hqy : q y with
      | false => cases p y <;> simp <;> omega
      | true => rw [hy hqy]; simp; omega
theorem mu_le (N : List Nd) (free : Bool) (L M : List K3) : muL N free (L ++ M) ≤ muL N free L := by
  unfold muL
  refine List.countP_mono_left fun k _ h => ?_
  simp only [decide_eq_true_eq] at h ⊢
  exact fun hm => h (List.mem_append.2 (.inl hm))
theorem mu_lt {N : List Nd} {free : Bool} {L : List K3} {k : K3} (h : k ∈ allK N free) (hn : k ∉ L) : muL N free (L ++ [k]) < muL N free L := by
  unfold muL
  refine countP_lt (x := k) (fun z _ hz => ?_) h (decide_eq_true hn) (decide_eq_false fun hh => hh (List.mem_append.2 (.inr (List.mem_singleton.2 rfl))))
  simp only [decide_eq_true_eq] at hz ⊢
  exact fun hm => hz (List.mem_append.2 (.inl hm))
theorem mu_all (N : List Nd) (free : Bool) (L : List K3) : muL N free L ≤ N.length * N.length := by
  rw [← len_allK N free]; exact List.countP_le_length

/-! ### walks: the comparison's parts -/
def eqO (N : List Nd) (L : List K3) : Objs := [(0, some (.box [.d (.sl 4 (N.map Nd.data)), .mref 1, .clos 53 [.ptr 2 0], .d (.bool false)])), (1, some (.map (esOf L))), (2, some (.box [.d (.sl 4 (N.map Nd.data))]))]
theorem same_runE (N : List Nd) (a b : Rf) (x y : Nd) (ha : 0 ≤ a.node) (hb : 0 ≤ b.node) (hx : N[a.node.toNat]? = some x) (hy : N[b.node.toNat]? = some y) :
    RW 53 [.d a.data, .d b.data, .ptr 0 0] [(0, some (.box [.d (.sl 4 (N.map Nd.data))]))] = some (.d (.bool (decide (prioE x a = prioE y b))), [(0, some (.box [.d (.sl 4 (N.map Nd.data))]))]) := by
  have h1 := prio_runH N a x ha hx
  have h2 := prio_runH N b y hb hy
  rw [Rf.data_eq] at h1 h2
  refine runW_fn rfl rfl ?_
  unfold runFn c53
  rw [Rf.data_eq, Rf.data_eq]
  simp only [go_sem, h1, h2]
  show _ = _
  kernel_rfl
@[go_sem] theorem z_nmr (o : Nat) (l : List AV) : namesL (.mref o :: l) = o :: namesL l := rfl
@[go_sem] theorem z_nmm (es : List (V.Data × V.Data)) : (AObj.map es).names = [] := rfl
@[go_sem] theorem z_renm (ρ : Nat → Option Nat) (o : Nat) (l : List AV) : renL ρ (.mref o :: l) = orAny (ρ o) .mref :: renL ρ l := rfl
@[go_sem] theorem z_renmm (ρ : Nat → Option Nat) (es : List (V.Data × V.Data)) : AObj.ren ρ (.map es) = .map es := rfl
@[go_sem] theorem z_lookR (z : V.Data) (ok : Bool) (kt : KT) (ob : Objs) (o : Nat) (key : V.Data) : V.lookR z ok kt ob (.mref o) (.d key) = need (kt.ok key) (lookMap z ok o key (oget ob o)) := nr rfl
@[go_sem] theorem z_lookM (z : V.Data) (ok : Bool) (o : Nat) (key : V.Data) (es : List (V.Data × V.Data)) : lookMap z ok o key (some (.map es)) = obind (mapGet key es) fun r => okR (lookV z ok r) [o] := nr rfl
@[go_sem] theorem z_lookVt (z : V.Data) (r : Option V.Data) : lookV z true r = .tup [.d (r.getD z), .d (.bool r.isSome)] := nr rfl
@[go_sem] theorem z_lookVf (z : V.Data) (r : Option V.Data) : lookV z false r = .d (r.getD z) := nr rfl
@[go_sem] theorem z_okR (v : AV) (rd : List Nat) : okR v rd = some ⟨v, [], rd⟩ := nr rfl
@[go_sem] theorem z_mupd (kt : KT) (ob : Objs) (o : Nat) (key val : V.Data) (v : AV) : mupdR kt ob (.mref o) (.d key) (some val) v = need (kt.ok key) (mupdMap o key val (shareUpd ob v.shared) v.shared (oget ob o)) := nr rfl
@[go_sem] theorem z_mupdM (o : Nat) (key val : V.Data) (sh : Objs) (rd : List Nat) (es : List (V.Data × V.Data)) : mupdMap o key val sh rd (some (.map es)) = obind (mapPut key val es) fun es' => some ⟨.any, (o, some (.map es')) :: sh, o :: rd⟩ := nr rfl
@[go_sem] theorem z_shdd (x : V.Data) : (AV.d x).shared = [] := rfl
theorem key_runE (N : List Nd) (L : List K3) (a b : Rf) : RW 70 [.ptr 0 0, .d a.data, .d b.data] (eqO N L) = some (.d (.agg [.int .i64 a.node, .int .i64 b.node, .int .i64 (IntKind.wrap .i64 (a.shift - b.shift))]), eqO N L) := by
  refine runW_fn rfl rfl ?_
  unfold runFn c70 eqO
  rw [Rf.data_eq, Rf.data_eq]
  simp only [go_sem]
  show _ = _
  kernel_rfl
/-- a loop whose states are told by a relation -/
theorem loop_inv {keep : List Nat} {c : VC} {Inv : Nat → St → Prop} {n : Nat} {Q : Out × St → Prop}
    (hs : ∀ i s, i < n → Inv i s → (∃ s', exec att RW LW c s = some (.normal, s') ∧ Inv (i + 1) (norm keep s')) ∨ (∃ e, exec att RW LW c s = some e ∧ e.1 ≠ .normal ∧ Q e))
    (he : ∀ s, Inv n s → ∃ e, exec att RW LW c s = some e ∧ e.1 ≠ .normal ∧ Q e) : ∀ k i s, i + k = n → Inv i s → ∃ e, LW keep c s = some e ∧ Q e
  | 0, i, s, h, hp => by
    have : i = n := by omega
    subst this
    obtain ⟨e, h1, h2, h3⟩ := he s hp
    exact ⟨e, loopW_out1 h1 h2, h3⟩
  | k + 1, i, s, h, hp => by
    rcases hs i s (by omega) hp with ⟨s', h1, h2⟩ | ⟨e, h1, h2, h3⟩
    · obtain ⟨e, h3, h4⟩ := loop_inv hs he k (i + 1) _ (by omega) h2
      exact ⟨e, loopW_next h1 h3, h4⟩
    · exact ⟨e, loopW_out1 h1 h2, h3⟩
end Go.Proofs.YtijfioakpngdhaaDoor

namespace Go.Proofs.YtijfioakpngdhaaDoor
open Go.V
set_option maxRecDepth 100000
set_option linter.unusedSimpArgs false
set_option linter.unusedVariables false

def bxN (x : Nd) : AObj := .box [.d (.int .i64 x.kind), .d (.int .i64 x.prio), .d (.sl 1 (x.labels.map .str)), .d (.sl 2 (x.next.map Rf.data))]
def bxR (r : Rf) : AObj := .box [.d (.int .i64 r.node), .d (.int .i64 r.shift)]
def eqI (N : List Nd) (a b : Rf) (x y : Nd) (L : List K3) (i : Nat) : St := ⟨[(0, .ptr 0 0), (4, .ptr 3 0), (5, .ptr 4 0), (7, .ptr 5 0), (8, .ptr 6 0), (76, .d (.int .i64 x.next.length)), (77, .d (.int .i64 i))],
  eqO N L ++ [(3, some (bxR a)), (4, some (bxR b)), (5, some (bxN x)), (6, some (bxN y))], 7, 3, false⟩
/-- what a run tells -/
def EqPost (N : List Nd) (L : List K3) (a b : Rf) (r : Bool) (M : List K3) : Prop :=
  (r = true → key3 false a b ∈ L ++ M ∧ ∀ p ∈ M, LocOk N false p (· ∈ L ++ M)) ∧ (EqP N false (key3 false a b) → r = true)
def EqRuns (N : List Nd) (L : List K3) (a b : Rf) : Prop := ∃ r M, RW 55 [.ptr 0 0, .d a.data, .d b.data] (eqO N L) = some (.d (.bool r), eqO N (L ++ M)) ∧ EqPost N L a b r M
/-- the pairs behind a pair, up to a place, are there -/
def Behind (a b : Rf) (x y : Nd) (i : Nat) (S : List K3) : Prop := ∀ (j : Nat) (r : Rf), j < i → x.next[j]? = some r → ∃ k q, kIdx x y j = some k ∧ y.next[k]? = some q ∧ (r.node, q.node, (a.shift - b.shift) + r.shift - q.shift) ∈ S
theorem Behind.mono {a b : Rf} {x y : Nd} {i : Nat} {S S' : List K3} (h : Behind a b x y i S) (hs : ∀ p ∈ S, p ∈ S') : Behind a b x y i S' := fun j r hj hr => by
  obtain ⟨k, q, h1, h2, h3⟩ := h j r hj hr
  exact ⟨k, q, h1, h2, hs _ h3⟩

def EqInv (N : List Nd) (a b : Rf) (x y : Nd) (L : List K3) (i : Nat) (s : St) : Prop := ∃ M, s = eqI N a b x y (L ++ M) i ∧ (∀ p ∈ M, LocOk N false p (· ∈ L ++ M)) ∧ Behind a b x y i (L ++ M)
def EqQ (N : List Nd) (a b : Rf) (x y : Nd) (L : List K3) (e : Out × St) : Prop :=
  (∃ M fr nx, e = (.exit 0, ⟨fr, (eqI N a b x y (L ++ M) 0).ob, nx, 3, false⟩) ∧ (∀ p ∈ M, LocOk N false p (· ∈ L ++ M)) ∧ Behind a b x y x.next.length (L ++ M)) ∨
  (∃ M fr ob nx, e = (.ret, ⟨fr, ob, nx, 3, false⟩) ∧ fget fr 6 = .d (.bool false) ∧ fin1 ⟨fr, ob, nx, 3, false⟩ [.d (.bool false)] = some (.d (.bool false), eqO N (L ++ M)) ∧
    ∃ (j : Nat) (r : Rf), x.next[j]? = some r ∧ ∀ k q, kIdx x y j = some k → y.next[k]? = some q → ¬ EqP N false (r.node, q.node, (a.shift - b.shift) + r.shift - q.shift))

theorem eq_step (N : List Nd) (B : Int) (hG : GOk N B) (a b : Rf) (x y : Nd) (L : List K3) (ha : 0 ≤ a.node) (hb : 0 ≤ b.node) (hx : N[a.node.toNat]? = some x) (hy : N[b.node.toNat]? = some y)
    (hsa : -2000000000000000000 ≤ a.shift ∧ a.shift ≤ 2000000000000000000) (hsb : -2000000000000000000 ≤ b.shift ∧ b.shift ≤ 2000000000000000000)
    (rec : ∀ (M : List K3) (r q : Rf), r ∈ x.next → q ∈ y.next → EqRuns N (L ++ M) ⟨r.node, r.shift + a.shift⟩ ⟨q.node, q.shift + b.shift⟩) (i : Nat) (s : St) (hi : i < x.next.length) (hI : EqInv N a b x y L i s) :
    (∃ s', exec att RW LW c55_l0 s = some (.normal, s') ∧ EqInv N a b x y L (i + 1) (norm [0, 4, 5, 7, 8, 76, 77] s')) ∨ (∃ e, exec att RW LW c55_l0 s = some e ∧ e.1 ≠ .normal ∧ EqQ N a b x y L e) := by
  obtain ⟨M, rfl, hM, hBe⟩ := hI
  have hxm := List.mem_of_getElem? hx
  have hym := List.mem_of_getElem? hy
  have hlx := hG.nd.lists x hxm
  have hly := hG.nd.lists y hym
  have hi' : (i : Int) < x.next.length := by omega
  have hk : x.next[i]? = some x.next[i] := List.getElem?_eq_getElem hi
  have hrm : x.next[i] ∈ x.next := List.getElem_mem hi
  generalize x.next[i] = rf at hk hrm
  have hrs := hG.shifts x hxm rf hrm
  have hrn := hG.refs x hxm rf hrm
  have hsm := hG.small
  have hn1 := next_runH N a x i rf ha hx hk hlx.2
  have w1 : IntKind.wrap .i64 (rf.shift + a.shift) = rf.shift + a.shift := wrap64 (by omega) (by omega)
  have w5 : IntKind.wrap .i64 ((i : Int) + 1) = ((i + 1 : Nat) : Int) := by rw [wrap64 (by omega) (by omega)]; omega
  unfold upRf at hn1
  rw [w1] at hn1
  rw [Rf.data_eq, Rf.data_eq] at hn1
  dsimp only at hn1
  -- no second reference
  have none2 : ∀ kk : Int, (kk < 0 ∨ (y.next.length : Int) ≤ kk) → RW 72 [.d (.agg [.sl 4 (N.map Nd.data)]), .d (.agg [.int .i64 b.node, .int .i64 b.shift]), .d (.int .i64 kk)] [] = some (.tup [.d (.agg [.int .i64 0, .int .i64 0]), .d (.bool false)], []) :=
    fun kk h => next_runN N b y kk hb hy h
  -- a second reference
  have some2 : ∀ (k : Nat) (q : Rf), y.next[k]? = some q → RW 72 [.d (.agg [.sl 4 (N.map Nd.data)]), .d (.agg [.int .i64 b.node, .int .i64 b.shift]), .d (.int .i64 k)] [] = some (.tup [.d (.agg [.int .i64 q.node, .int .i64 (q.shift + b.shift)]), .d (.bool true)], []) := by
    intro k q hq
    have hqm := List.mem_of_getElem? hq
    have hqs := hG.shifts y hym q hqm
    have w2 : IntKind.wrap .i64 (q.shift + b.shift) = q.shift + b.shift := wrap64 (by omega) (by omega)
    have := next_runH N b y k q hb hy hq hly.2
    unfold upRf at this
    rw [w2, Rf.data_eq, Rf.data_eq] at this
    exact this
  have recs : ∀ (q : Rf), q ∈ y.next → ∃ r M', RW 55 [.ptr 0 0, .d (.agg [.int .i64 rf.node, .int .i64 (rf.shift + a.shift)]), .d (.agg [.int .i64 q.node, .int .i64 (q.shift + b.shift)])] (eqO N (L ++ M)) = some (.d (.bool r), eqO N (L ++ (M ++ M'))) ∧
      (r = true → (rf.node, q.node, (a.shift - b.shift) + rf.shift - q.shift) ∈ L ++ (M ++ M') ∧ ∀ p ∈ M', LocOk N false p (· ∈ L ++ (M ++ M'))) ∧ (EqP N false (rf.node, q.node, (a.shift - b.shift) + rf.shift - q.shift) → r = true) := by
    intro q hq
    obtain ⟨r, M', h1, h2⟩ := rec M rf q hrm hq
    have hkk : key3 false ⟨rf.node, rf.shift + a.shift⟩ ⟨q.node, q.shift + b.shift⟩ = (rf.node, q.node, (a.shift - b.shift) + rf.shift - q.shift) := by
      unfold key3 ndf
      rw [if_neg (by decide)]
      dsimp only
      rw [show rf.shift + a.shift - (q.shift + b.shift) = a.shift - b.shift + rf.shift - q.shift by omega]
    unfold EqPost at h2
    rw [hkk, List.append_assoc] at h2
    rw [List.append_assoc] at h1
    exact ⟨r, M', h1, h2⟩
  by_cases hl0 : x.labels.length = 0
  · have hkx : ∀ j, kIdx x y j = some j := fun j => by unfold kIdx; rw [if_pos hl0]
    have hlz : decide (0 < (x.labels.length : Int)) = false := decide_eq_false (by omega)
    cases hq : y.next[i]? with
    | none =>
      have hge := List.getElem?_eq_none_iff.1 hq
      have hn2 := none2 (i : Int) (.inr (by omega))
      have hno : ∀ k' q', kIdx x y i = some k' → y.next[k']? = some q' → False := fun k' q' h1 h2 => by rw [hkx] at h1; injection h1 with h1; subst h1; rw [hq] at h2; cases h2
      refine .inr ⟨?e1, ?g1_1, ?g2_1, .inr ⟨M, ?fr_1, ?ob_1, ?nx_1, ?g3_1, ?gf_1, ?g4_1, i, rf, hk, ?g5_1⟩⟩
      case g1_1 =>
        unfold c55_l0 eqI eqO bxN bxR
        simp only [go_sem, hi', hn1, w5, hlz, hn2]
        rfl
      case g2_1 => intro h; cases h
      case g3_1 => rfl
      case gf_1 => rfl
      case g4_1 =>
        unfold eqO
        show _ = _
        kernel_rfl
      case g5_1 =>
        intro k' q' hk' hq' hE
        exact hno k' q' hk' hq'
    | some q =>
      have hn2 := some2 i q hq
      obtain ⟨r, M', h1, h2, h3⟩ := recs q (List.mem_of_getElem? hq)
      unfold eqO at h1
      obtain ⟨k, hki⟩ : ∃ k, k = i := ⟨i, rfl⟩
      have hkx := hki ▸ hkx i
      rw [hki] at hkx
      cases r with
      | true =>
        refine .inl ⟨?s2, ?g1_2, M ++ M', ?g2_2, ?g3_2, ?g4_2⟩
        case g1_2 =>
          unfold c55_l0 eqI eqO bxN bxR
          simp only [go_sem, hi', hn1, w5, hlz, hn2, h1]
          rfl
        case g2_2 =>
          unfold eqI eqO bxN bxR
          show _ = _
          kernel_rfl
        case g3_2 =>
          intro p hp
          rcases List.mem_append.1 hp with hp | hp
          · exact (hM p hp).mono fun z hz => by rw [← List.append_assoc]; exact List.mem_append.2 (.inl hz)
          · exact (h2 rfl).2 p hp
        case g4_2 =>
          intro j r hj hr
          by_cases e : j = i
          · subst e
            rw [hk] at hr
            injection hr with hr
            subst hr
            exact ⟨_, q, hkx, hq, (h2 rfl).1⟩
          · exact (hBe.mono fun p hp => by rw [← List.append_assoc]; exact List.mem_append.2 (.inl hp)) j r (by omega) hr
      | false =>
        refine .inr ⟨?e3, ?g1_3, ?g2_3, .inr ⟨M ++ M', ?fr_3, ?ob_3, ?nx_3, ?g3_3, ?gf_3, ?g4_3, i, rf, hk, ?g5_3⟩⟩
        case g1_3 =>
          unfold c55_l0 eqI eqO bxN bxR
          simp only [go_sem, hi', hn1, w5, hlz, hn2, h1]
          rfl
        case g2_3 => intro h; cases h
        case g3_3 => rfl
        case gf_3 => rfl
        case g4_3 =>
          unfold eqO
          show _ = _
          kernel_rfl
        case g5_3 =>
          intro k' q' hk' hq' hE
          rw [hkx] at hk'
          injection hk' with hk'
          subst hk'
          rw [hq] at hq'
          injection hq' with hq'
          subst hq'
          exact absurd (h3 hE) (by decide)
  · have hlp : decide (0 < (x.labels.length : Int)) = true := decide_eq_true (by omega)
    have hil : i < x.labels.length := by
      have hns := hG.ns x hxm
      have : x.kind = 6 ∨ x.kind = 7 := by
        have h1 := hns.low
        have h2 := hns.leaf
        have h3 := hns.send
        by_cases h : x.kind ≤ 3
        · rw [(h2 h).2.1] at hl0; exact absurd rfl hl0
        · by_cases h' : x.kind = 4 ∨ x.kind = 5
          · rw [(h3 h').1] at hl0; exact absurd rfl hl0
          · omega
      have := (hns.sel this).2
      omega
    have hxl : x.labels[i]? = some x.labels[i] := List.getElem?_eq_getElem hil
    generalize x.labels[i] = lb at hxl
    have hidx := index_run y.labels lb (by omega)
    have hkx0 : kIdx x y i = idx? y.labels lb := by unfold kIdx; rw [if_neg hl0, hxl]
    unfold idxI at hidx
    cases hix : idx? y.labels lb with
    | none =>
      rw [hix] at hidx
      dsimp only at hidx
      have hn2 := none2 (-1) (.inl (by decide))
      have hno : ∀ k' q', kIdx x y i = some k' → y.next[k']? = some q' → False := fun k' q' h1 h2 => by rw [hkx0, hix] at h1; cases h1
      refine .inr ⟨?e4, ?g1_4, ?g2_4, .inr ⟨M, ?fr_4, ?ob_4, ?nx_4, ?g3_4, ?gf_4, ?g4_4, i, rf, hk, ?g5_4⟩⟩
      case g1_4 =>
        unfold c55_l0 eqI eqO bxN bxR
        simp only [go_sem, hi', hn1, w5, hlp, hxl, hidx, hn2]
        rfl
      case g2_4 => intro h; cases h
      case g3_4 => rfl
      case gf_4 => rfl
      case g4_4 =>
        unfold eqO
        show _ = _
        kernel_rfl
      case g5_4 =>
        intro k' q' hk' hq' hE
        exact hno k' q' hk' hq'
    | some k =>
      rw [hix] at hidx
      dsimp only at hidx
      have hkx : kIdx x y i = some k := by rw [hkx0, hix]
      cases hq : y.next[k]? with
      | none =>
        have hge := List.getElem?_eq_none_iff.1 hq
        have hn2 := none2 (k : Int) (.inr (by omega))
        have hno : ∀ k' q', kIdx x y i = some k' → y.next[k']? = some q' → False := fun k' q' h1 h2 => by rw [hkx] at h1; injection h1 with h1; subst h1; rw [hq] at h2; cases h2
        refine .inr ⟨?e5, ?g1_5, ?g2_5, .inr ⟨M, ?fr_5, ?ob_5, ?nx_5, ?g3_5, ?gf_5, ?g4_5, i, rf, hk, ?g5_5⟩⟩
        case g1_5 =>
          unfold c55_l0 eqI eqO bxN bxR
          simp only [go_sem, hi', hn1, w5, hlp, hxl, hidx, hn2]
          rfl
        case g2_5 => intro h; cases h
        case g3_5 => rfl
        case gf_5 => rfl
        case g4_5 =>
          unfold eqO
          show _ = _
          kernel_rfl
        case g5_5 =>
          intro k' q' hk' hq' hE
          exact hno k' q' hk' hq'
      | some q =>
        have hn2 := some2 k q hq
        obtain ⟨r, M', h1, h2, h3⟩ := recs q (List.mem_of_getElem? hq)
        unfold eqO at h1
        cases r with
        | true =>
          refine .inl ⟨?s6, ?g1_6, M ++ M', ?g2_6, ?g3_6, ?g4_6⟩
          case g1_6 =>
            unfold c55_l0 eqI eqO bxN bxR
            simp only [go_sem, hi', hn1, w5, hlp, hxl, hidx, hn2, h1]
            rfl
          case g2_6 =>
            unfold eqI eqO bxN bxR
            show _ = _
            kernel_rfl
          case g3_6 =>
            intro p hp
            rcases List.mem_append.1 hp with hp | hp
            · exact (hM p hp).mono fun z hz => by rw [← List.append_assoc]; exact List.mem_append.2 (.inl hz)
            · exact (h2 rfl).2 p hp
          case g4_6 =>
            intro j r hj hr
            by_cases e : j = i
            · subst e
              rw [hk] at hr
              injection hr with hr
              subst hr
              exact ⟨k, q, hkx, hq, (h2 rfl).1⟩
            · exact (hBe.mono fun p hp => by rw [← List.append_assoc]; exact List.mem_append.2 (.inl hp)) j r (by omega) hr
        | false =>
          refine .inr ⟨?e7, ?g1_7, ?g2_7, .inr ⟨M ++ M', ?fr_7, ?ob_7, ?nx_7, ?g3_7, ?gf_7, ?g4_7, i, rf, hk, ?g5_7⟩⟩
          case g1_7 =>
            unfold c55_l0 eqI eqO bxN bxR
            simp only [go_sem, hi', hn1, w5, hlp, hxl, hidx, hn2, h1]
            rfl
          case g2_7 => intro h; cases h
          case g3_7 => rfl
          case gf_7 => rfl
          case g4_7 =>
            unfold eqO
            show _ = _
            kernel_rfl
          case g5_7 =>
            intro k' q' hk' hq' hE
            rw [hkx] at hk'
            injection hk' with hk'
            subst hk'
            rw [hq] at hq'
            injection hq' with hq'
            subst hq'
            exact absurd (h3 hE) (by decide)
end Go.Proofs.YtijfioakpngdhaaDoor

namespace Go.Proofs.YtijfioakpngdhaaDoor
open Go.V
set_option maxRecDepth 100000
set_option linter.unusedSimpArgs false
set_option linter.unusedVariables false

theorem eq_loop (N : List Nd) (B : Int) (hG : GOk N B) (a b : Rf) (x y : Nd) (L : List K3) (ha : 0 ≤ a.node) (hb : 0 ≤ b.node) (hx : N[a.node.toNat]? = some x) (hy : N[b.node.toNat]? = some y)
    (hsa : -2000000000000000000 ≤ a.shift ∧ a.shift ≤ 2000000000000000000) (hsb : -2000000000000000000 ≤ b.shift ∧ b.shift ≤ 2000000000000000000)
    (rec : ∀ (M : List K3) (r q : Rf), r ∈ x.next → q ∈ y.next → EqRuns N (L ++ M) ⟨r.node, r.shift + a.shift⟩ ⟨q.node, q.shift + b.shift⟩) :
    ∃ e, LW [0, 4, 5, 7, 8, 76, 77] c55_l0 (eqI N a b x y L 0) = some e ∧ EqQ N a b x y L e := by
  refine loop_inv (Inv := EqInv N a b x y L) (n := x.next.length) (fun i s hi hI => eq_step N B hG a b x y L ha hb hx hy hsa hsb rec i s hi hI) (fun s hI => ?_) x.next.length 0 _ (by omega) ⟨[], by rw [List.append_nil], (fun p hp => by cases hp), fun j r hj => by omega⟩
  obtain ⟨M, rfl, hM, hBe⟩ := hI
  refine ⟨?e, ?g1, ?g2, .inl ⟨M, ?fr, ?nx, ?g3, hM, hBe⟩⟩
  case g1 =>
    unfold c55_l0 eqI eqO bxN bxR
    simp only [go_sem]
    rfl
  case g2 => intro h; cases h
  case g3 =>
    unfold eqI eqO bxN bxR
    rfl

theorem eq_run (N : List Nd) (B : Int) (hG : GOk N B) : ∀ (f : Nat) (a b : Rf) (L : List K3), muL N false L ≤ f → 0 ≤ a.node → a.node < N.length → 0 ≤ b.node → b.node < N.length →
    (-1000000000000000000 + f * 1000000000 ≤ a.shift ∧ a.shift ≤ 1000000000000000000 - f * 1000000000) → (-1000000000000000000 + f * 1000000000 ≤ b.shift ∧ b.shift ≤ 1000000000000000000 - f * 1000000000) → EqRuns N L a b := by
  intro f
  induction f using Nat.strongRecOn with
  | _ f ih =>
  intro a b L hm ha ha2 hb hb2 hsa hsb
  have hx : N[a.node.toNat]? = some (N[a.node.toNat]'(by omega)) := List.getElem?_eq_getElem _
  have hy : N[b.node.toNat]? = some (N[b.node.toNat]'(by omega)) := List.getElem?_eq_getElem _
  generalize N[a.node.toNat]'(by omega) = x at hx
  generalize N[b.node.toNat]'(by omega) = y at hy
  have hxm := List.mem_of_getElem? hx
  have hym := List.mem_of_getElem? hy
  have hsm := hG.small
  have nx := hG.ns x hxm
  have ny := hG.ns y hym
  have px := nx.prio
  have py := ny.prio
  have w1 : IntKind.wrap .i64 (x.prio + a.shift) = x.prio + a.shift := wrap64 (by omega) (by omega)
  have w2 : IntKind.wrap .i64 (y.prio + b.shift) = y.prio + b.shift := wrap64 (by omega) (by omega)
  have w3 : IntKind.wrap .i64 (a.shift - b.shift) = a.shift - b.shift := wrap64 (by omega) (by omega)
  have hS := same_runE N a b x y ha hb hx hy
  have d0 : decide (0 ≤ a.node) = true := decide_eq_true ha
  have d1 : decide (0 ≤ b.node) = true := decide_eq_true hb
  have hkey : key3 false a b = (a.node, b.node, a.shift - b.shift) := by unfold key3 ndf; rw [if_neg (by decide)]
  -- what equality needs
  have need : EqP N false (key3 false a b) → x.kind = y.kind ∧ x.labels.length = y.labels.length ∧ prioE x a = prioE y b := by
    intro hE
    rw [hkey] at hE
    obtain ⟨x', y', h1, h2, h3, h4, h5, h6, h7, _⟩ := hE.loc
    dsimp only at h1 h2 h3 h4 h7
    rw [hx] at h3
    rw [hy] at h4
    injection h3 with h3
    injection h4 with h4
    subst h3; subst h4
    refine ⟨h5, h6, ?_⟩
    unfold prioE
    rw [← h5]
    cases hb' : actB x.kind with
    | false => rfl
    | true =>
      rw [if_pos rfl, if_pos rfl, w1, w2]
      have := h7 rfl hb'
      omega
  rw [Rf.data_eq, Rf.data_eq] at hS
  have fail : ∀ r : Prop, RW 55 [.ptr 0 0, .d a.data, .d b.data] (eqO N L) = some (.d (.bool false), eqO N L) → ¬ (x.kind = y.kind ∧ x.labels.length = y.labels.length ∧ prioE x a = prioE y b) → EqRuns N L a b := fun _ h1 h2 =>
    ⟨false, [], by rw [List.append_nil]; exact h1, (fun h => by cases h), fun hE => absurd (need hE) h2⟩
  by_cases c1 : x.kind = y.kind
  · have e1 := decide_eq_true c1
    by_cases c2 : x.labels.length = y.labels.length
    · have e2 := decide_eq_true c2
      by_cases c3 : prioE x a = prioE y b
      · have e3 := decide_eq_true c3
        rw [e3] at hS
        have hK := key_runE N L a b
        rw [w3, Rf.data_eq, Rf.data_eq] at hK
        have hg := mapGet_es (a.node, b.node, a.shift - b.shift) L
        unfold keyD at hg
        dsimp only at hg
        by_cases c4 : (a.node, b.node, a.shift - b.shift) ∈ L
        · rw [if_pos c4] at hg
          refine ⟨true, [], ?_, fun _ => ⟨by rw [hkey, List.append_nil]; exact c4, fun p hp => by cases hp⟩, fun _ => rfl⟩
          rw [List.append_nil]
          unfold eqO at hK ⊢
          refine runW_fn rfl rfl ?_
          unfold runFn c55
          rw [Rf.data_eq, Rf.data_eq]
          simp only [go_sem, d0, d1, hx, hy, Nd.data_eq, e1, e2, hS, hK, hg]
          show _ = _
          kernel_rfl
        · rw [if_neg c4] at hg
          have hp := mapPut_es (a.node, b.node, a.shift - b.shift) L c4
          unfold keyD at hp
          dsimp only at hp
          have hin : x.next ≠ [] → (a.node, b.node, a.shift - b.shift) ∈ allK N false := by
            intro hne
            have hact : actB x.kind = true := by
              unfold actB
              have := nx.low
              by_cases h4 : x.kind ≤ 3
              · exact absurd (nx.leaf h4).1 hne
              · simp; omega
            have := mem_allK (N := N) (free := false) (i := a.node.toNat) (j := b.node.toNat) (by omega) (by omega)
            unfold pairOf ndf at this
            rw [hx, hy, if_neg (by decide), Option.getD_some, Option.getD_some, Int.toNat_of_nonneg ha, Int.toNat_of_nonneg hb] at this
            unfold prioE at c3
            rw [← c1, hact, if_pos rfl, if_pos rfl, w1, w2] at c3
            rw [show a.shift - b.shift = y.prio - x.prio by omega]
            exact this
          obtain ⟨e, hl, hq⟩ := eq_loop N B hG a b x y (L ++ [(a.node, b.node, a.shift - b.shift)]) ha hb hx hy (by omega) (by omega) (fun M r q hr hq => by
            have h1 := mu_lt (hin (fun h => by rw [h] at hr; cases hr)) c4
            have h2 := mu_le N false (L ++ [(a.node, b.node, a.shift - b.shift)]) M
            have h3 := hG.shifts x hxm r hr
            have h4 := hG.shifts y hym q hq
            have h5 := hG.refs x hxm r hr
            have h6 := hG.refs y hym q hq
            refine ih (f - 1) (by omega) _ _ _ (by omega) h5.1 h5.2 h6.1 h6.2 ?_ ?_
            · dsimp only; omega
            · dsimp only; omega)
          have hK1 := key_runE N L a b
          rw [w3, Rf.data_eq, Rf.data_eq] at hK1
          unfold eqO at hK
          rcases hq with ⟨M, fr, nx, rfl, h1, h2⟩ | ⟨M, fr, ob, nx, rfl, h1, h2, h3⟩
          · refine ⟨true, (a.node, b.node, a.shift - b.shift) :: M, ?_, fun _ => ⟨by rw [hkey]; exact List.mem_append.2 (.inr List.mem_cons_self), ?_⟩, fun _ => rfl⟩
            · unfold eqO
              refine runW_fn rfl rfl ?_
              unfold runFn c55
              rw [Rf.data_eq, Rf.data_eq]
              simp only [go_sem, d0, d1, hx, hy, Nd.data_eq, e1, e2, hS, hK, hg, hp]
              refine obind_mk (Eq.trans (by kernel_rfl) hl) ?_
              unfold eqI eqO bxN bxR
              simp only [go_sem]
              rw [List.append_assoc]
              show _ = _
              kernel_rfl
            · have hSet : ∀ z, z ∈ (L ++ [(a.node, b.node, a.shift - b.shift)]) ++ M → z ∈ L ++ (a.node, b.node, a.shift - b.shift) :: M := fun z hz => by rw [List.append_assoc] at hz; exact hz
              intro p hp'
              rcases List.mem_cons.1 hp' with e | hp'
              · subst e
                refine ⟨x, y, ha, hb, hx, hy, c1, c2, fun _ hact => ?_, fun i r hr => ?_⟩
                · unfold prioE at c3
                  rw [← c1, hact, if_pos rfl, if_pos rfl, w1, w2] at c3
                  dsimp only
                  omega
                · have hi := (List.getElem?_eq_some_iff.1 hr).1
                  obtain ⟨k, q, k1, k2, k3⟩ := h2 i r hi hr
                  refine ⟨k, q, k1, k2, ?_⟩
                  unfold ndf
                  rw [if_neg (by decide)]
                  exact hSet _ k3
              · exact (h1 p hp').mono hSet
          · refine ⟨false, (a.node, b.node, a.shift - b.shift) :: M, ?_, (fun h => by cases h), fun hE => ?_⟩
            · unfold eqO
              refine runW_fn rfl rfl ?_
              unfold runFn c55
              rw [Rf.data_eq, Rf.data_eq]
              simp only [go_sem, d0, d1, hx, hy, Nd.data_eq, e1, e2, hS, hK, hg, hp]
              refine obind_mk (Eq.trans (by kernel_rfl) hl) ?_
              rw [List.append_assoc] at h2
              unfold eqO at h2
              simp only [go_sem, h1]
              exact h2
            · exfalso
              obtain ⟨j, r, hj, hno⟩ := h3
              rw [hkey] at hE
              obtain ⟨x', y', q1, q2, q3, q4, q5, q6, q7, q8⟩ := hE.loc
              dsimp only at q1 q2 q3 q4 q7 q8
              rw [hx] at q3
              rw [hy] at q4
              injection q3 with q3
              injection q4 with q4
              subst q3; subst q4
              obtain ⟨k, q, k1, k2, k3⟩ := q8 j r hj
              unfold ndf at k3
              rw [if_neg (by decide)] at k3
              exact hno k q k1 k2 k3
      · have e3 := decide_eq_false c3
        rw [e3] at hS
        refine fail True ?_ (fun h => c3 h.2.2)
        unfold eqO
        refine runW_fn rfl rfl ?_
        unfold runFn c55
        rw [Rf.data_eq, Rf.data_eq]
        simp only [go_sem, d0, d1, hx, hy, Nd.data_eq, e1, e2, hS]
        show _ = _
        kernel_rfl
    · have e2 := decide_eq_false c2
      refine fail True ?_ (fun h => c2 h.2.1)
      unfold eqO
      refine runW_fn rfl rfl ?_
      unfold runFn c55
      rw [Rf.data_eq, Rf.data_eq]
      simp only [go_sem, d0, d1, hx, hy, Nd.data_eq, e1, e2]
      show _ = _
      kernel_rfl
  · have e1 := decide_eq_false c1
    refine fail True ?_ (fun h => c1 h.1)
    unfold eqO
    refine runW_fn rfl rfl ?_
    unfold runFn c55
    rw [Rf.data_eq, Rf.data_eq]
    simp only [go_sem, d0, d1, hx, hy, Nd.data_eq, e1]
    show _ = _
    kernel_rfl
end Go.Proofs.YtijfioakpngdhaaDoor
