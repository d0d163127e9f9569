/- From the form's readings of the arguments to types as data. -/
import Derived.Test.YtijfioakpngdhaaDoorMF
import Derived.DataElems
import Derived.ChangeArms
import Derived.Lib.LaidTab
import Derived.Test.YtijfioakpngdhaaDoorRows
import Derived.WideShapes
namespace Go.Proofs.YtijfioakpngdhaaDoor
open Go.V
set_option linter.unusedSimpArgs false
set_option maxRecDepth 100000
set_option linter.unusedVariables false

section
variable {H : Type} {enc : TypeId × Value → H} {W : World} {spare : Nat → Bool} {held : Bool} {S : Nat → Nat → Prop}

theorem add_at {a : Addr} (h : a.spot = none) (m : Nat) (w : World) : w.cell? (a.add m) = World.at_ w a.block (a.off + m) := by
  obtain ⟨b, o, s⟩ := a
  have hs : s = none := h
  subst hs
  unfold Addr.add World.at_
  by_cases hm : m = 0
  · subst hm; rfl
  · rw [if_neg hm]

/-- the elements of a slice that reads, as data -/
theorem elems_of {α : Type} (e : α → V.Data) (Pr : α → Prop) (hS : ∀ b off, S b off) (sz : Nat) (hsz : 0 < sz) (a : Addr) (len : Nat)
    (h : ∀ i, i < len → ∃ cs, W.cells? 0 (a.add (i * sz)) sz = some cs ∧ ∃ y : α, Pr y ∧ ∃ v, DRep W S (e y) v ∧ v.cells.toList = cs) :
    ∃ ys : List α, ys.length = len ∧ (∀ y ∈ ys, Pr y) ∧ (0 < len → a.spot = none ∧ Elems W S sz a.block a.off (ys.map e)) := by
  by_cases h0 : len = 0
  · subst h0; exact ⟨[], rfl, (fun y hy => by cases hy), fun h => absurd h (by omega)⟩
  · have hspot : a.spot = none := by
      obtain ⟨cs, hc, _⟩ := h 0 (by omega)
      obtain ⟨_, hl, hcell⟩ := World.cells?_some hc
      have := hcell 0 hsz
      rw [Nat.zero_mul] at this
      have e0 : (a.add 0).add 0 = a := by unfold Addr.add; simp
      rw [e0] at this
      cases hx : a.spot with
      | none => rfl
      | some q =>
        exfalso
        have hnone : W.cell? a = none := by
          unfold World.cell?
          cases W.heap[a.block]? with
          | none => rfl
          | some o => cases o <;> first | rfl | (simp [hx])
        rw [hnone] at this
        have hlt : 0 < cs.length := by omega
        rw [List.getElem?_eq_getElem hlt] at this
        cases this
    have key : ∀ m k, k + m = len → ∃ ys : List α, ys.length = m ∧ (∀ y ∈ ys, Pr y) ∧ Elems W S sz a.block (a.off + k * sz) (ys.map e) := by
      intro m
      induction m with
      | zero => intro k _; exact ⟨[], rfl, (fun y hy => by cases hy), trivial⟩
      | succ m ih =>
        intro k hk
        obtain ⟨cs, hc, y, hy, v, hv, hcv⟩ := h k (by omega)
        obtain ⟨ys, h1, h2, h3⟩ := ih (k + 1) (by omega)
        obtain ⟨_, hl, hcell⟩ := World.cells?_some hc
        refine ⟨y :: ys, by rw [List.length_cons, h1], fun z hz => ?_, ⟨v, hv, ?_, fun t u hu => ⟨?_, hS _ _⟩⟩, ?_⟩
        · rcases List.mem_cons.1 hz with q | hz
          · exact q ▸ hy
          · exact h2 z hz
        · rw [← Array.length_toList, hcv]; exact hl
        · have hlt : t < cs.length := by
            rw [← hcv, Array.length_toList]; exact (Array.getElem?_eq_some_iff.1 hu).1
          have := hcell t (by omega)
          rw [Addr.add_add, add_at hspot] at this
          rw [Nat.add_assoc, this, ← hcv]
          rw [Array.getElem?_toList]; exact hu
        · rw [Nat.add_assoc, ← Nat.succ_mul]; exact h3
    obtain ⟨ys, h1, h2, h3⟩ := key len 0 (by omega)
    refine ⟨ys, h1, h2, fun _ => ⟨hspot, ?_⟩⟩
    rw [Nat.zero_mul, Nat.add_zero] at h3
    exact h3

theorem bulk_one (d : DataW H) : 1 ≤ Rows.uptoBulk d := by
  cases d with
  | lit l => cases l <;> simp [Rows.uptoBulk]
  | _ => simp [Rows.uptoBulk]
theorem bulk_mem {d : DataW H} {l : List (DataW H)} (h : d ∈ l) : Rows.uptoBulk d ≤ Rows.uptoBulkAll l := by
  induction l with
  | nil => cases h
  | cons x r ih =>
    simp only [Rows.uptoBulkAll]
    rcases List.mem_cons.1 h with e | e
    · subst e; omega
    · have := ih e; omega
theorem bulk_len (l : List (DataW H)) : l.length ≤ Rows.uptoBulkAll l := by
  induction l with
  | nil => simp [Rows.uptoBulkAll]
  | cons x r ih => have := bulk_one x; simp only [Rows.uptoBulkAll, List.length_cons]; omega
theorem bulk_slice (a b : List (DataW H)) : Rows.uptoBulk (.slice a b) = Rows.uptoBulkAll a + Rows.uptoBulkAll b + 1 := by simp [Rows.uptoBulk]
theorem bulk_str (l : List UInt8) : Rows.uptoBulk (DataW.lit (H := H) (.string l)) = l.length + 1 := by simp [Rows.uptoBulk]
theorem bulk_agg (l : List (DataW H)) : Rows.uptoBulk (.agg l) = Rows.uptoBulkAll l + 1 := by simp [Rows.uptoBulk]
theorem lit64 {n : Int} (h : (Lit.int .i64 n).wf = true) : -9223372036854775808 ≤ n ∧ n < 9223372036854775808 := by
  have h' : (decide ((IntKind.i64).min ≤ n) && decide (n ≤ (IntKind.i64).max)) = true := h
  simp only [Bool.and_eq_true, decide_eq_true_eq] at h'
  have e1 : (IntKind.i64).min = -9223372036854775808 := by decide
  have e2 : (IntKind.i64).max = 9223372036854775807 := by decide
  rw [e1, e2] at h'
  omega

theorem cells9 : Tryd.prog.cellsOf 9 = 1 := by kernel_rfl
theorem cells3 : Tryd.prog.cellsOf 3 = 1 := by kernel_rfl
theorem cells44 : Tryd.prog.cellsOf 44 = 1 := by kernel_rfl
theorem cells22 : Tryd.prog.cellsOf 22 = 1 := by kernel_rfl
theorem cells49 : Tryd.prog.cellsOf 49 = 6 := by kernel_rfl

/-- a list of strings that reads -/
theorem trod_strs (hS : ∀ b off, S b off) {n : Nat} {c : Value} {x : DataW H × List MemPlace} (h : DataW.trod enc Tryd.prog W 0 spare held n 44 [c] = some x) (hB : Rows.uptoBulk x.1 ≤ 1048576) :
    ∃ ls : List (List UInt8), ls.length < 1000000000 ∧ (∀ l ∈ ls, l.length < 1000000000) ∧ DRep W S (.sl 1 (ls.map .str)) c := by
  rcases DataW.trod_slice Tryd.underlying44 h with ⟨h1, _⟩ | ⟨a, len, cap, elems, rest, m, rfl, h1, hx, _, hle, hcap, hlen, hel, _⟩
  · injection h1 with h1; subst h1
    exact ⟨[], by decide, (fun l hl => by cases hl), none, 0, rfl, Nat.le_refl _, fun hne => absurd rfl hne⟩
  · injection h1 with h1; subst h1
    rw [hx] at hB
    dsimp only at hB
    rw [bulk_slice] at hB
    have hbl := bulk_len (elems.map (·.1))
    rw [List.length_map, hlen] at hbl
    rw [cells9] at hel
    obtain ⟨ys, k1, k2, k3⟩ := elems_of (W := W) (S := S) V.Data.str (fun l => l.length < 1000000000) hS 1 (by omega) a len (fun i hi => by
      have := hel i hi
      have hk : elems[i]? = some (elems[i]'(by omega)) := List.getElem?_eq_getElem _
      rw [hk] at this
      cases hc : W.cells? 0 (a.add (i * 1)) 1 with
      | none => rw [hc] at this; cases this
      | some cs =>
        rw [hc] at this
        obtain ⟨s, e1, e2, e3⟩ := DataW.trod_string Tryd.underlying9 (show DataW.trod enc Tryd.prog W 0 spare held m 9 cs = some _ from this)
        subst e1
        refine ⟨_, rfl, s.data.toList, ?_, .string s, ?_, rfl⟩
        · have hm := bulk_mem (l := elems.map (·.1)) (List.mem_map_of_mem (List.getElem_mem (show i < elems.length by omega)))
          rw [e2, bulk_str] at hm
          omega
        · exact congrArg Value.string (by cases s; rfl))
    refine ⟨ys, by rw [k1]; omega, k2, some a, cap, by rw [List.length_map, k1], by rw [List.length_map, k1]; exact hle, fun hne => ?_⟩
    have hpos : 0 < len := by
      rw [← k1]
      cases ys with
      | nil => exact absurd rfl hne
      | cons _ _ => simp
    obtain ⟨p1, p2⟩ := k3 hpos
    obtain ⟨b, o, s⟩ := a
    have : s = none := p1
    subst this
    exact ⟨b, o, rfl, p2⟩

/-- the cells of a type -/
def tc (t : T) : List V.Data := [.int .i64 t.kind, .int .i64 t.prio, .str t.name, .int .i64 t.shift, .sl 1 (t.labels.map .str), .sl 6 (t.kids.map T.data)]

mutual
theorem trod_T (hS : ∀ b off, S b off) : ∀ (n : Nat) (cs : List Value) (x : DataW H × List MemPlace), DataW.trod enc Tryd.prog W 0 spare held n 49 cs = some x → Rows.uptoBulk x.1 ≤ 1048576 → ∃ t : T, Wf t ∧ DReps W S (tc t) cs ∧ ∀ u ∈ cs, u.oneCell' = true
  | 0, cs, x, h, _ => by simp [DataW.trod] at h
  | n + 1, cs, x, h, hB => by
    obtain ⟨xs, n', hn, hxe, hl, hxl, hf⟩ := DataW.trod_struct Tryd.underlying49 h
    have hn' : n' = n := by omega
    subst hn'
    rw [cells49] at hl
    match cs, hl with
    | [c0, c1, c2, c3, c4, c5], _ =>
      have hx : ∀ i, i < 6 → ∃ y, xs[i]? = some y := fun i hi => ⟨_, List.getElem?_eq_getElem (by rw [hxl]; exact hi)⟩
      have f0 : DataW.trod enc Tryd.prog W 0 spare held n' 3 (([c0, c1, c2, c3, c4, c5].drop 0).take (Tryd.prog.cellsOf 3)) = xs[0]? := hf 0 _ rfl
      have f1 : DataW.trod enc Tryd.prog W 0 spare held n' 3 (([c0, c1, c2, c3, c4, c5].drop 1).take (Tryd.prog.cellsOf 3)) = xs[1]? := hf 1 _ rfl
      have f2 : DataW.trod enc Tryd.prog W 0 spare held n' 9 (([c0, c1, c2, c3, c4, c5].drop 2).take (Tryd.prog.cellsOf 9)) = xs[2]? := hf 2 _ rfl
      have f3 : DataW.trod enc Tryd.prog W 0 spare held n' 3 (([c0, c1, c2, c3, c4, c5].drop 3).take (Tryd.prog.cellsOf 3)) = xs[3]? := hf 3 _ rfl
      have f4 : DataW.trod enc Tryd.prog W 0 spare held n' 44 (([c0, c1, c2, c3, c4, c5].drop 4).take (Tryd.prog.cellsOf 44)) = xs[4]? := hf 4 _ rfl
      have f5 : DataW.trod enc Tryd.prog W 0 spare held n' 22 (([c0, c1, c2, c3, c4, c5].drop 5).take (Tryd.prog.cellsOf 22)) = xs[5]? := hf 5 _ rfl
      rw [cells3] at f0 f1 f3
      rw [cells9] at f2
      rw [cells44] at f4
      rw [cells22] at f5
      obtain ⟨y0, q0⟩ := hx 0 (by omega)
      obtain ⟨y1, q1⟩ := hx 1 (by omega)
      obtain ⟨y2, q2⟩ := hx 2 (by omega)
      obtain ⟨y3, q3⟩ := hx 3 (by omega)
      obtain ⟨y4, q4⟩ := hx 4 (by omega)
      obtain ⟨y5, q5⟩ := hx 5 (by omega)
      rw [q0] at f0
      rw [q1] at f1
      rw [q2] at f2
      rw [q3] at f3
      rw [q4] at f4
      rw [q5] at f5
      rw [hxe] at hB
      dsimp only at hB
      rw [bulk_agg] at hB
      have hpart : ∀ (i : Nat) (y : DataW H × List MemPlace), xs[i]? = some y → Rows.uptoBulk y.1 ≤ 1048576 := fun i y hy => by
        have := bulk_mem (l := xs.map (·.1)) (List.mem_map_of_mem (List.mem_of_getElem? hy))
        omega
      obtain ⟨k, e0, _, w0⟩ := DataW.trod_int Tryd.underlying3 f0
      obtain ⟨p, e1, _, w1⟩ := DataW.trod_int Tryd.underlying3 f1
      obtain ⟨s, e2, z2, w2⟩ := DataW.trod_string Tryd.underlying9 f2
      obtain ⟨sh, e3, _, w3⟩ := DataW.trod_int Tryd.underlying3 f3
      have g0 : c0 = Value.int .i64 k := (List.cons.inj (show [c0] = [Value.int .i64 k] from e0)).1
      have g1 : c1 = Value.int .i64 p := (List.cons.inj (show [c1] = [Value.int .i64 p] from e1)).1
      have g2 : c2 = Value.string s := (List.cons.inj (show [c2] = [Value.string s] from e2)).1
      have g3 : c3 = Value.int .i64 sh := (List.cons.inj (show [c3] = [Value.int .i64 sh] from e3)).1
      obtain ⟨ls, l1, l2, l3⟩ := trod_strs hS (show DataW.trod enc Tryd.prog W 0 spare held n' 44 [c4] = some y4 from f4) (hpart 4 _ q4)
      obtain ⟨ks, m1, m2, m3⟩ := trod_Ts hS n' c5 y5 f5 (hpart 5 _ q5)
      clear e0 e1 e2 e3
      subst g0; subst g1; subst g2; subst g3
      refine ⟨.mk k p s.data.toList sh ls ks, ?_, ⟨_, _, rfl, rfl, _, _, rfl, rfl, _, _, rfl, ?_, _, _, rfl, rfl, _, _, rfl, l3, _, _, rfl, m3, rfl⟩, ?_⟩
      · rw [Wf]
        have hs := hpart 2 _ q2
        rw [z2] at hs
        dsimp only at hs
        rw [bulk_str] at hs
        refine ⟨by omega, l1, l2, m1, lit64 w0, lit64 w1, lit64 w3, ?_⟩
        have : ∀ l : List T, (∀ t ∈ l, Wf t) → WfL l := by
          intro l
          induction l with
          | nil => intro _; exact trivial
          | cons y l ih => intro hy; exact ⟨hy y List.mem_cons_self, ih fun t ht => hy t (List.mem_cons_of_mem _ ht)⟩
        exact this ks m2
      · exact congrArg Value.string (by cases s; rfl)
      · obtain ⟨A, cap, ea, _⟩ := l3
        obtain ⟨A', cap', ea', _⟩ := m3
        intro u hu
        simp only [List.mem_cons, List.not_mem_nil, or_false] at hu
        rcases hu with rfl | rfl | rfl | rfl | rfl | rfl
        · rfl
        · rfl
        · rfl
        · rfl
        · rw [ea]; rfl
        · rw [ea']; rfl
theorem trod_Ts (hS : ∀ b off, S b off) : ∀ (n : Nat) (c : Value) (x : DataW H × List MemPlace), DataW.trod enc Tryd.prog W 0 spare held n 22 [c] = some x → Rows.uptoBulk x.1 ≤ 1048576 → ∃ ts : List T, ts.length < 1000000000 ∧ (∀ t ∈ ts, Wf t) ∧ DRep W S (.sl 6 (ts.map T.data)) c
  | 0, c, x, h, _ => by simp [DataW.trod] at h
  | n + 1, c, x, h, hB => by
    rcases DataW.trod_slice Tryd.underlying22 h with ⟨h1, _⟩ | ⟨a, len, cap, elems, rest, m, hm, h1, hxe, _, hle, hcap, hlen, hel, _⟩
    · injection h1 with h1; subst h1
      exact ⟨[], by decide, (fun l hl => by cases hl), none, 0, rfl, Nat.le_refl _, fun hne => absurd rfl hne⟩
    · have hm' : m = n := by omega
      subst hm'
      injection h1 with h1; subst h1
      rw [hxe] at hB
      dsimp only at hB
      rw [bulk_slice] at hB
      have hbl := bulk_len (elems.map (·.1))
      rw [List.length_map, hlen] at hbl
      rw [cells49] at hel
      obtain ⟨ys, k1, k2, k3⟩ := elems_of (W := W) (S := S) T.data Wf hS 6 (by omega) a len (fun i hi => by
        have := hel i hi
        have hk : elems[i]? = some (elems[i]'(by omega)) := List.getElem?_eq_getElem _
        rw [hk] at this
        cases hc : W.cells? 0 (a.add (i * 6)) 6 with
        | none => rw [hc] at this; cases this
        | some cs =>
          rw [hc] at this
          obtain ⟨t, t1, t2, t3⟩ := trod_T hS m cs _ (show DataW.trod enc Tryd.prog W 0 spare held m 49 cs = some _ from this) (by
            have := bulk_mem (l := elems.map (·.1)) (List.mem_map_of_mem (List.getElem_mem (show i < elems.length by omega)))
            omega)
          refine ⟨_, rfl, t, t1, .agg cs.toArray, ?_, by simp [Value.cells]⟩
          rw [T.data_eq]
          exact ⟨cs, rfl, t3, t2⟩)
      refine ⟨ys, by rw [k1]; omega, k2, some a, cap, by rw [List.length_map, k1], by rw [List.length_map, k1]; exact hle, fun hne => ?_⟩
      have hpos : 0 < len := by
        rw [← k1]
        cases ys with
        | nil => exact absurd rfl hne
        | cons _ _ => simp
      obtain ⟨p1, p2⟩ := k3 hpos
      obtain ⟨b, o, s⟩ := a
      have : s = none := p1
      subst this
      exact ⟨b, o, rfl, p2⟩
end
end
end Go.Proofs.YtijfioakpngdhaaDoor

namespace Go.Proofs.YtijfioakpngdhaaDoor
open Go.V Go.WideShapes
set_option linter.unusedSimpArgs false
set_option maxRecDepth 100000
set_option linter.unusedVariables false

section
variable {H : Type} {enc : TypeId × Value → H} {W : World} {spare : Nat → Bool} {held : Bool} {S : Nat → Nat → Prop}

/-- a slice that reads, by what its elements read as -/
theorem trod_list {α : Type} {te ts sz : Nat} (hts : Tryd.prog.underlying ts = some (.slice te)) (hc : Tryd.prog.cellsOf te = sz) (hsz : 0 < sz) (e : α → V.Data) (Pr : α → Prop) (hS : ∀ b off, S b off)
    (leaf : ∀ (m : Nat) (cs : List Value) (x : DataW H × List MemPlace), DataW.trod enc Tryd.prog W 0 spare held m te cs = some x → Rows.uptoBulk x.1 ≤ 1048576 → ∃ y : α, Pr y ∧ ∃ v, DRep W S (e y) v ∧ v.cells.toList = cs)
    {n : Nat} {c : Value} {x : DataW H × List MemPlace} (h : DataW.trod enc Tryd.prog W 0 spare held n ts [c] = some x) (hB : Rows.uptoBulk x.1 ≤ 1048576) :
    ∃ ys : List α, ys.length < 1000000000 ∧ (∀ y ∈ ys, Pr y) ∧ DRep W S (.sl sz (ys.map e)) c := by
  rcases DataW.trod_slice hts h with ⟨h1, _⟩ | ⟨a, len, cap, elems, rest, m, hm, h1, hxe, _, hle, hcap, hlen, hel, _⟩
  · injection h1 with h1; subst h1
    exact ⟨[], by simp, (fun l hl => by cases hl), none, 0, rfl, Nat.le_refl _, fun hne => absurd rfl hne⟩
  · injection h1 with h1; subst h1
    rw [hxe] at hB
    dsimp only at hB
    rw [bulk_slice] at hB
    have hbl := bulk_len (elems.map (·.1))
    rw [List.length_map, hlen] at hbl
    rw [hc] at hel
    obtain ⟨ys, k1, k2, k3⟩ := elems_of (W := W) (S := S) e Pr hS sz hsz a len (fun i hi => by
      have := hel i hi
      have hk : elems[i]? = some (elems[i]'(by omega)) := List.getElem?_eq_getElem _
      rw [hk] at this
      cases hcc : W.cells? 0 (a.add (i * sz)) sz with
      | none => rw [hcc] at this; cases this
      | some cs =>
        rw [hcc] at this
        obtain ⟨y, y1, v, y2, y3⟩ := leaf m cs _ (show DataW.trod enc Tryd.prog W 0 spare held m te cs = some _ from this) (by
          have := bulk_mem (l := elems.map (·.1)) (List.mem_map_of_mem (List.getElem_mem (show i < elems.length by omega)))
          omega)
        exact ⟨cs, rfl, y, y1, v, y2, y3⟩)
    refine ⟨ys, by rw [k1]; omega, k2, some a, cap, by rw [List.length_map, k1], by rw [List.length_map, k1]; exact hle, fun hne => ?_⟩
    have hpos : 0 < len := by
      rw [← k1]
      cases ys with
      | nil => exact absurd rfl hne
      | cons _ _ => simp
    obtain ⟨p1, p2⟩ := k3 hpos
    obtain ⟨b, o, s⟩ := a
    have : s = none := p1
    subst this
    exact ⟨b, o, rfl, p2⟩
theorem leaf_int {te : Nat} {k : IntKind} (ht : Tryd.prog.underlying te = some (.int k)) (m : Nat) (cs : List Value) (x : DataW H × List MemPlace) (h : DataW.trod enc Tryd.prog W 0 spare held m te cs = some x) (hB : Rows.uptoBulk x.1 ≤ 1048576) :
    ∃ y : Int, (k.min ≤ y ∧ y ≤ k.max) ∧ ∃ v, DRep W S (.int k y) v ∧ v.cells.toList = cs := by
  obtain ⟨n, e1, _, w⟩ := DataW.trod_int ht h
  have h' : (decide (k.min ≤ n) && decide (n ≤ k.max)) = true := w
  simp only [Bool.and_eq_true, decide_eq_true_eq] at h'
  exact ⟨n, h', .int k n, rfl, by rw [e1]; rfl⟩
theorem leaf_str {te : Nat} (ht : Tryd.prog.underlying te = some .string) (m : Nat) (cs : List Value) (x : DataW H × List MemPlace) (h : DataW.trod enc Tryd.prog W 0 spare held m te cs = some x) (hB : Rows.uptoBulk x.1 ≤ 1048576) :
    ∃ y : List UInt8, y.length < 1000000000 ∧ ∃ v, DRep W S (.str y) v ∧ v.cells.toList = cs := by
  obtain ⟨s, e1, e2, e3⟩ := DataW.trod_string ht h
  refine ⟨s.data.toList, ?_, .string s, congrArg Value.string (by cases s; rfl), by rw [e1]; rfl⟩
  rw [e2, bulk_str] at hB
  omega
theorem u8_range : IntKind.min .u8 = 0 ∧ IntKind.max .u8 = 255 := by decide
theorem i64_range : IntKind.min .i64 = -9223372036854775808 ∧ IntKind.max .i64 = 9223372036854775807 := by decide

section
variable {r : Reach} {b0 : Nat} {v : Value} {d : DataW H} {p : List MemPlace}
theorem read_Ts (hS : ∀ b off, S b off) (hv : Value.okWide Tryd.prog W r b0 22 v) (h : DataW.Trod enc Tryd.prog W 0 spare held 22 v d p) (hB : Rows.uptoBulk d ≤ 1048576) :
    ∃ ts : List T, ts.length < 1000000000 ∧ (∀ t ∈ ts, Wf t) ∧ DRep W S (.sl 6 (ts.map T.data)) v := by
  obtain ⟨a, len, cap, rfl⟩ := okWide_slice Tryd.underlying22 hv
  obtain ⟨fuel, hf⟩ := h
  exact trod_Ts hS fuel _ _ hf hB
theorem read_T (hS : ∀ b off, S b off) (hv : Value.okWide Tryd.prog W r b0 49 v) (h : DataW.Trod enc Tryd.prog W 0 spare held 49 v d p) (hB : Rows.uptoBulk d ≤ 1048576) :
    ∃ t : T, Wf t ∧ DRep W S t.data v := by
  obtain ⟨cs, rfl, _⟩ := okWide_struct Tryd.underlying49 hv
  obtain ⟨fuel, hf⟩ := h
  obtain ⟨t, t1, t2, t3⟩ := trod_T hS fuel cs.toList _ hf hB
  refine ⟨t, t1, ?_⟩
  rw [T.data_eq]
  exact ⟨cs.toList, rfl, t3, t2⟩
theorem read_ints {te ts : Nat} {k : IntKind} (hts : Tryd.prog.underlying ts = some (.slice te)) (ht : Tryd.prog.underlying te = some (.int k)) (hc : Tryd.prog.cellsOf te = 1) (hS : ∀ b off, S b off) (hv : Value.okWide Tryd.prog W r b0 ts v)
    (h : DataW.Trod enc Tryd.prog W 0 spare held ts v d p) (hB : Rows.uptoBulk d ≤ 1048576) : ∃ l : List Int, l.length < 1000000000 ∧ (∀ y ∈ l, k.min ≤ y ∧ y ≤ k.max) ∧ DRep W S (.sl 1 (l.map (.int k))) v := by
  obtain ⟨a, len, cap, rfl⟩ := okWide_slice hts hv
  obtain ⟨fuel, hf⟩ := h
  exact trod_list hts hc (by omega) (.int k) (fun y => k.min ≤ y ∧ y ≤ k.max) hS (leaf_int ht) hf hB
theorem read_bytes {te ts : Nat} (hts : Tryd.prog.underlying ts = some (.slice te)) (ht : Tryd.prog.underlying te = some (.int .u8)) (hc : Tryd.prog.cellsOf te = 1) (hS : ∀ b off, S b off) (hv : Value.okWide Tryd.prog W r b0 ts v)
    (h : DataW.Trod enc Tryd.prog W 0 spare held ts v d p) (hB : Rows.uptoBulk d ≤ 1048576) : ∃ l : List Nat, l.length < 1000000000 ∧ (∀ y ∈ l, y < 256) ∧ DRep W S (.sl 1 (l.map fun b => .int .u8 (b : Nat))) v := by
  obtain ⟨l, l1, l2, l3⟩ := read_ints hts ht hc hS hv h hB
  have hr := u8_range
  refine ⟨l.map Int.toNat, by rw [List.length_map]; exact l1, fun y hy => ?_, ?_⟩
  · obtain ⟨z, hz, rfl⟩ := List.mem_map.1 hy
    have := l2 z hz
    omega
  · have e : (l.map Int.toNat).map (fun b => V.Data.int .u8 (b : Nat)) = l.map (.int .u8) := by
      rw [List.map_map]
      refine List.map_congr_left fun z hz => ?_
      have := l2 z hz
      show V.Data.int .u8 ((z.toNat : Nat) : Int) = _
      rw [show ((z.toNat : Nat) : Int) = z by omega]
    rw [e]; exact l3
theorem read_strs {te ts : Nat} (hts : Tryd.prog.underlying ts = some (.slice te)) (ht : Tryd.prog.underlying te = some .string) (hc : Tryd.prog.cellsOf te = 1) (hS : ∀ b off, S b off) (hv : Value.okWide Tryd.prog W r b0 ts v)
    (h : DataW.Trod enc Tryd.prog W 0 spare held ts v d p) (hB : Rows.uptoBulk d ≤ 1048576) : ∃ l : List (List UInt8), l.length < 1000000000 ∧ (∀ y ∈ l, y.length < 1000000000) ∧ DRep W S (.sl 1 (l.map .str)) v := by
  obtain ⟨a, len, cap, rfl⟩ := okWide_slice hts hv
  obtain ⟨fuel, hf⟩ := h
  exact trod_list hts hc (by omega) .str (fun l => l.length < 1000000000) hS (leaf_str ht) hf hB
theorem read_str {t : Nat} (ht : Tryd.prog.underlying t = some .string) (hv : Value.okWide Tryd.prog W r b0 t v) (h : DataW.Trod enc Tryd.prog W 0 spare held t v d p) (hB : Rows.uptoBulk d ≤ 1048576) :
    ∃ l : List UInt8, l.length < 1000000000 ∧ DRep W S (.str l) v := by
  obtain ⟨s, rfl⟩ := okWide_string ht hv
  obtain ⟨fuel, hf⟩ := h
  obtain ⟨y, y1, v, y2, y3⟩ := leaf_str (S := S) ht fuel _ _ hf hB
  refine ⟨y, y1, ?_⟩
  have e : v = .string ⟨y.toArray⟩ := y2
  subst e
  have e2 : [Value.string ⟨y.toArray⟩] = [Value.string s] := y3
  injection e2 with e2
  exact e2.symm
end
end
end Go.Proofs.YtijfioakpngdhaaDoor
