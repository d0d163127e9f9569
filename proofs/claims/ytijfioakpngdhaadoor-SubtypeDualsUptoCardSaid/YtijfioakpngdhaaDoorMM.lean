/- The closed graph: subtyping between duals; the law SubtypeDuals. -/
import Derived.Test.YtijfioakpngdhaaDoorMK
import Derived.Test.YtijfioakpngdhaaDoorML
namespace Go.Proofs.YtijfioakpngdhaaDoor
open Go.V
set_option maxRecDepth 100000
set_option linter.unusedSimpArgs false
set_option linter.unusedVariables false

/-- a place in the closed graph, its node, and the node of the dual -/
theorem closeAt (N : List Nd) (q : Nat) (hq : q < N.length + N.length) : ∃ (m : Nat) (y : Nd), m < N.length ∧ N[m]? = some y ∧
    ((q = m ∧ (closeE N)[q]? = some y ∧ (closeE N)[q + N.length]? = some (dualN N.length y)) ∨ (q = m + N.length ∧ (closeE N)[q]? = some (dualN N.length y) ∧ (closeE N)[q - N.length]? = some y)) := by
  have lo : ∀ i, i < N.length → (closeE N)[i]? = N[i]? := fun i hi => by unfold closeE; rw [List.getElem?_append_left hi]
  have hi : ∀ i, i < N.length → (closeE N)[i + N.length]? = (N[i]?).map (dualN N.length) := fun i hi => by
    unfold closeE; rw [List.getElem?_append_right (by omega), List.getElem?_map]; congr 2; omega
  by_cases h : q < N.length
  · have hk : N[q]? = some N[q] := List.getElem?_eq_getElem h
    exact ⟨q, N[q], h, hk, .inl ⟨rfl, by rw [lo q h, hk], by rw [hi q h, hk]; rfl⟩⟩
  · obtain ⟨i, rfl⟩ : ∃ i, q = i + N.length := ⟨q - N.length, by omega⟩
    have hil : i < N.length := by omega
    have hk : N[i]? = some N[i] := List.getElem?_eq_getElem hil
    exact ⟨i, N[i], hil, hk, .inr ⟨rfl, by rw [hi i hil, hk]; rfl, by rw [Nat.add_sub_cancel, lo i hil, hk]⟩⟩

theorem upLget (k n : Int) (l : List Rf) (j : Nat) : (upL k n l)[j]? = (l[j]?).map fun r => upR k n j r := by
  unfold upL; rw [List.getElem?_mapIdx]
theorem upLlen (k n : Int) (l : List Rf) : (upL k n l).length = l.length := by unfold upL; rw [List.length_mapIdx]


theorem kindD_low {k : Int} (h : 1 ≤ k ∧ k ≤ 7) : 1 ≤ kindD k ∧ kindD k ≤ 7 := by unfold kindD; split; omega; split; omega; split; omega; split; omega; omega
theorem kindD_kind (k : Int) : kindD (kindD k) = k ∧ (kindD k = 4 ↔ k = 5) ∧ (kindD k = 5 ↔ k = 4) ∧ (kindD k = 6 ↔ k = 7) ∧ (kindD k = 7 ↔ k = 6) ∧ (kindD k ≤ 3 ↔ k ≤ 3) ∧ (actB (kindD k) = actB k) := by
  by_cases h4 : k = 4
  · subst h4; decide
  · by_cases h5 : k = 5
    · subst h5; decide
    · by_cases h6 : k = 6
      · subst h6; decide
      · by_cases h7 : k = 7
        · subst h7; decide
        · have e : kindD k = k := by unfold kindD; rw [if_neg h4, if_neg h5, if_neg h6, if_neg h7]
          rw [e, e]
          exact ⟨rfl, by omega, by omega, by omega, by omega, Iff.rfl, rfl⟩
theorem dual_ns {x : Nd} (h : NS x) (n : Int) : NS (dualN n x) := by
  obtain ⟨e0, e4, e5, e6, e7, e3, ea⟩ := kindD_kind x.kind
  refine ⟨kindD_low h.low, h.prio, fun k => ?_, fun k => ?_, fun k => ?_, h.nodup⟩
  · have := h.leaf (e3.1 k)
    refine ⟨?_, this.2.1, this.2.2⟩
    show upL _ _ x.next = []
    rw [this.1]; rfl
  · have := h.send (by rcases k with k | k; exact .inr (e4.1 k); exact .inl (e5.1 k))
    exact ⟨this.1, by show (upL _ _ x.next).length = 2; rw [upLlen]; exact this.2⟩
  · have := h.sel (by rcases k with k | k; exact .inr (e6.1 k); exact .inl (e7.1 k))
    exact ⟨this.1, by show (upL _ _ x.next).length = _; rw [upLlen]; exact this.2⟩
theorem close_gok {N : List Nd} {B : Int} (h : GOk N B) (hn : N.length ≤ 5000) : GOk (closeE N) B := by
  have hlen := closeE_len N
  have key : ∀ x ∈ closeE N, ((x.labels.length < 1000000000 ∧ x.next.length < 1000000000) ∧ NS x) ∧ ∀ r ∈ x.next, (0 ≤ r.node ∧ r.node < ((closeE N).length : Int)) ∧ 0 ≤ r.shift ∧ r.shift ≤ B := by
    intro x hx
    unfold closeE at hx
    rcases List.mem_append.1 hx with hx | hx
    · exact ⟨⟨h.nd.lists x hx, h.ns x hx⟩, fun r hr => by have := h.refs x hx r hr; exact ⟨by omega, h.shifts x hx r hr⟩⟩
    · obtain ⟨y, hy, rfl⟩ := List.mem_map.1 hx
      refine ⟨⟨⟨(h.nd.lists y hy).1, by show (upL _ _ _).length < _; rw [upLlen]; exact (h.nd.lists y hy).2⟩, dual_ns (h.ns y hy) _⟩, fun r hr => ?_⟩
      obtain ⟨j, hj⟩ := List.mem_iff_getElem?.1 (show r ∈ upL y.kind N.length y.next from hr)
      rw [upLget] at hj
      cases hk : y.next[j]? with
      | none => rw [hk] at hj; cases hj
      | some q =>
        rw [hk] at hj
        have := h.refs y hy q (List.mem_of_getElem? hk)
        have h2 := h.shifts y hy q (List.mem_of_getElem? hk)
        injection hj with hj
        subst hj
        unfold upR
        split <;> exact ⟨by dsimp only; omega, h2⟩
  exact ⟨⟨by omega, fun x hx => (key x hx).1.1, fun x hx r hr => by have := ((key x hx).2 r hr).1; omega⟩, fun x hx => (key x hx).1.2, fun x hx r hr => ((key x hx).2 r hr).1, fun x hx r hr => ((key x hx).2 r hr).2, h.pos, by omega, h.small.2⟩

/-- the other half's place -/
def sg (n a : Int) : Int := if a < n then a + n else a - n
theorem sg_sg {n a : Int} (h0 : 0 ≤ a) (h1 : a < n + n) : sg n (sg n a) = a ∧ 0 ≤ sg n a ∧ sg n a < n + n := by unfold sg; split <;> (split <;> omega)
theorem dual_node {N : List Nd} {B : Int} (hG : GOk N B) {a : Int} {x : Nd} (h0 : 0 ≤ a) (hx : (closeE N)[a.toNat]? = some x) : ∃ x' : Nd, (closeE N)[(sg N.length a).toNat]? = some x' ∧ 0 ≤ sg N.length a ∧ x'.kind = kindD x.kind ∧ x'.prio = x.prio ∧ x'.labels = x.labels ∧
    (x.kind = 4 ∨ x.kind = 5 → ∀ r0 r1 : Rf, x.next = [r0, r1] → x'.next = [r0, ⟨sg N.length r1.node, r1.shift⟩]) ∧ (x.kind = 6 ∨ x.kind = 7 → ∀ (i : Nat) (r : Rf), x.next[i]? = some r → x'.next[i]? = some ⟨sg N.length r.node, r.shift⟩) := by
  have hlen := closeE_len N
  have hlt := (List.getElem?_eq_some_iff.1 hx).1
  obtain ⟨m, y, hm, hy, hc⟩ := closeAt N a.toNat (by omega)
  have ym := List.mem_of_getElem? hy
  have ny := hG.ns y ym
  have ry := hG.refs y ym
  obtain ⟨e0, e4, e5, e6, e7, e3, ea⟩ := kindD_kind y.kind
  rcases hc with ⟨hq, h1, h2⟩ | ⟨hq, h1, h2⟩
  · rw [h1] at hx
    injection hx with hx
    subst hx
    have es : sg N.length a = a + N.length := by unfold sg; rw [if_pos (by omega)]
    refine ⟨dualN N.length y, by rw [es]; rw [show (a + (N.length : Int)).toNat = a.toNat + N.length by omega]; exact h2, by omega, rfl, rfl, rfl, fun k r0 r1 hr => ?_, fun k i r hr => ?_⟩
    · rw [hr] at ry
      have := ry r1 (List.mem_cons_of_mem _ List.mem_cons_self)
      show upL _ _ y.next = _
      rw [hr]
      show [upR y.kind N.length ((0 : Nat) : Int) r0, upR y.kind N.length ((1 : Nat) : Int) r1] = _
      unfold upR sg
      rw [if_neg (by omega), if_pos (.inl (by decide)), if_pos (by omega)]
    · have := ry r (List.mem_of_getElem? hr)
      show (upL _ _ y.next)[i]? = _
      rw [upLget, hr]
      unfold upR sg
      rw [if_pos (by omega)]
      show some (if (0 : Int) < i ∨ y.kind = 6 ∨ y.kind = 7 then (⟨r.node + N.length, r.shift⟩ : Rf) else r) = some _
      rw [if_pos (.inr k)]
  · rw [h1] at hx
    injection hx with hx
    subst hx
    have es : sg N.length a = a - N.length := by unfold sg; rw [if_neg (by omega)]
    refine ⟨y, by rw [es]; rw [show (a - (N.length : Int)).toNat = a.toNat - N.length by omega]; exact h2, by omega, e0.symm, rfl, rfl, fun k r0 r1 hr => ?_, fun k i r hr => ?_⟩
    · have k' : y.kind = 4 ∨ y.kind = 5 := by rcases k with k | k; exact .inr (e4.1 k); exact .inl (e5.1 k)
      obtain ⟨s0, s1, hs⟩ := two_next ny k'
      have hr' : upL y.kind N.length y.next = [r0, r1] := hr
      rw [hs] at hr' ry
      have h3 : [upR y.kind N.length ((0 : Nat) : Int) s0, upR y.kind N.length ((1 : Nat) : Int) s1] = [r0, r1] := hr'
      unfold upR at h3
      rw [if_neg (by omega), if_pos (.inl (by decide))] at h3
      injection h3 with a1 h3
      injection h3 with a2 h3
      subst a1; subst a2
      have := ry s1 (List.mem_cons_of_mem _ List.mem_cons_self)
      rw [hs]
      unfold sg
      dsimp only
      rw [if_neg (by omega), show s1.node + (N.length : Int) - N.length = s1.node by omega]
    · have k' : y.kind = 6 ∨ y.kind = 7 := by rcases k with k | k; exact .inr (e6.1 k); exact .inl (e7.1 k)
      have hr' : (upL y.kind N.length y.next)[i]? = some r := hr
      rw [upLget] at hr'
      cases hk : y.next[i]? with
      | none => rw [hk] at hr'; cases hr'
      | some q =>
        rw [hk] at hr'
        have h3 : some (upR y.kind N.length (i : Int) q) = some r := hr'
        injection h3 with h3
        unfold upR at h3
        rw [if_pos (.inr k')] at h3
        subst h3
        have := ry q (List.mem_of_getElem? hk)
        unfold sg
        dsimp only
        rw [if_neg (by omega), show q.node + (N.length : Int) - N.length = q.node by omega]
theorem Needs.mono {x y : Nd} {d : Int} {S S' : K3 → Prop} (h : Needs x y d S) (hs : ∀ q, S q → S' q) : Needs x y d S' := by
  obtain ⟨h4, h5, h6, h7⟩ := h
  exact ⟨fun k r0 r1 q0 q1 a b => ⟨hs _ (h4 k r0 r1 q0 q1 a b).1, hs _ (h4 k r0 r1 q0 q1 a b).2⟩, fun k r0 r1 q0 q1 a b => ⟨hs _ (h5 k r0 r1 q0 q1 a b).1, hs _ (h5 k r0 r1 q0 q1 a b).2⟩,
    fun k s m => by obtain ⟨p, p1, p2⟩ := h6 k s m; exact ⟨p, p1, hs _ p2⟩, fun k s m => by obtain ⟨p, p1, p2⟩ := h7 k s m; exact ⟨p, p1, hs _ p2⟩⟩
theorem dual_subp {N : List Nd} {B : Int} (hG : GOk N B) (hC : GOk (closeE N) B) {a b d : Int} (h : SubP (closeE N) (a, b, d)) : SubP (closeE N) (sg N.length b, sg N.length a, -d) := by
  refine subP_of hC (fun q => SubP (closeE N) q ∨ ∃ a b d, q = (sg N.length b, sg N.length a, -d) ∧ SubP (closeE N) (a, b, d)) (fun q hq => ?_) (.inr ⟨a, b, d, rfl, h⟩)
  rcases hq with hq | ⟨a, b, d, rfl, hq⟩
  · obtain ⟨x, y, s⟩ := hq.node hC
    exact ⟨x, y, s.lo, s.hx, s.hy, s.kind, s.prio, s.needs.mono fun q h => .inl h⟩
  · obtain ⟨x, y, s⟩ := hq.node hC
    obtain ⟨x', x1, x2, x3, x4, x5, x6, x7⟩ := dual_node hG s.lo.1 s.hx
    obtain ⟨y', y1, y2, y3, y4, y5, y6, y7⟩ := dual_node hG s.lo.2 s.hy
    have hk := s.kind
    have nx := hC.ns x (List.mem_of_getElem? s.hx)
    have ny := hC.ns y (List.mem_of_getElem? s.hy)
    have n1 := s.needs
    have hp := s.prio
    dsimp only at n1 hp x1 x2 y1 y2 x6 x7 y6 y7
    obtain ⟨e0, e4, e5, e6, e7, e3, ea⟩ := kindD_kind y.kind
    have lab : ∀ l p, labPair x y d l = some p → SubP (closeE N) p → (x.kind = 6 ∨ x.kind = 7) → ∃ o, labPair y' x' (-d) l = some o ∧ (SubP (closeE N) o ∨ ∃ a b d, o = (sg N.length b, sg N.length a, -d) ∧ SubP (closeE N) (a, b, d)) := by
      intro l p hp Sp k
      obtain ⟨i, j, r, q, p1, p2, p3, p4, rfl⟩ := labPair_out hp
      refine ⟨_, labPair_in (by rw [y5]; exact p2) (by rw [x5]; exact p1) (y7 (by omega) j q p4) (x7 k i r p3), .inr ⟨_, _, _, ?_, Sp⟩⟩
      dsimp only
      rw [show -d + q.shift - r.shift = -(d + r.shift - q.shift) by omega]
    refine ⟨y', x', ⟨y2, x2⟩, y1, x1, by rw [y3, x3, hk], fun ha => ?_, fun k r0 r1 q0 q1 hr hq => ?_, fun k r0 r1 q0 q1 hr hq => ?_, fun k l hl => ?_, fun k l hl => ?_⟩
    · rw [y3, ea, ← hk] at ha
      have := hp ha
      dsimp only
      rw [y4, x4]
      omega
    · rw [y3] at k
      have ky := e4.1 k
      have kx : x.kind = 5 := by omega
      obtain ⟨t0, t1, ht⟩ := two_next nx (.inr kx)
      obtain ⟨u0, u1, hu⟩ := two_next ny (.inr ky)
      obtain ⟨v1, v2⟩ := n1.2.1 kx t0 t1 u0 u1 ht hu
      rw [y6 (.inr ky) u0 u1 hu] at hr
      rw [x6 (.inr kx) t0 t1 ht] at hq
      injection hr with a1 hr
      injection hr with a2 hr
      injection hq with b1 hq
      injection hq with b2 hq
      subst a1; subst a2; subst b1; subst b2
      dsimp only
      refine ⟨.inl ?_, .inr ⟨_, _, _, ?_, v2⟩⟩
      · rw [show t0.shift - u0.shift - -d = d + t0.shift - u0.shift by omega]; exact v1
      · rw [show -d + u1.shift - t1.shift = -(d + t1.shift - u1.shift) by omega]
    · rw [y3] at k
      have ky := e5.1 k
      have kx : x.kind = 4 := by omega
      obtain ⟨t0, t1, ht⟩ := two_next nx (.inl kx)
      obtain ⟨u0, u1, hu⟩ := two_next ny (.inl ky)
      obtain ⟨v1, v2⟩ := n1.1 kx t0 t1 u0 u1 ht hu
      rw [y6 (.inl ky) u0 u1 hu] at hr
      rw [x6 (.inl kx) t0 t1 ht] at hq
      injection hr with a1 hr
      injection hr with a2 hr
      injection hq with b1 hq
      injection hq with b2 hq
      subst a1; subst a2; subst b1; subst b2
      dsimp only
      refine ⟨.inl ?_, .inr ⟨_, _, _, ?_, v2⟩⟩
      · rw [show -d + u0.shift - t0.shift = u0.shift - t0.shift - d by omega]; exact v1
      · rw [show -d + u1.shift - t1.shift = -(d + t1.shift - u1.shift) by omega]
    · rw [y3] at k
      have kx : x.kind = 7 := by have := e6.1 k; omega
      rw [x5] at hl
      obtain ⟨p, p1, p2⟩ := n1.2.2.2 kx l hl
      exact lab l p p1 p2 (.inr kx)
    · rw [y3] at k
      have kx : x.kind = 6 := by have := e7.1 k; omega
      rw [y5] at hl
      obtain ⟨p, p1, p2⟩ := n1.2.2.1 kx l hl
      exact lab l p p1 p2 (.inl kx)
theorem fits_run {N : List Nd} {B : Int} (hG : GOk N B) {a b : Rf} (ha : RefOk N a) (hb : RefOk N b) (ho : RefOk N (ofE N.length b)) : RW 25 [.d (.agg [.sl 4 (N.map Nd.data)]), .d a.data, .d b.data] [] = some (.d (.bool (subB N a (ofE N.length b))), []) := by
  have hsm := hG.small
  have b1 := hb.lo
  have b2 := hb.hi
  have h1 := of_run N b (by omega) (by omega)
  have h2 := sub_run hG ha ho
  generalize ofE N.length b = o at h1 h2 ⊢
  rw [Rf.data_eq, Rf.data_eq] at h1 h2 ⊢
  refine runW_fn rfl rfl ?_
  unfold runFn c25
  simp only [go_sem, h1, h2]
  try (show _ = _; kernel_rfl)
end Go.Proofs.YtijfioakpngdhaaDoor

namespace Go.Proofs.YtijfioakpngdhaaDoor
open Go.V
set_option maxRecDepth 100000
set_option linter.unusedSimpArgs false
set_option linter.unusedVariables false

theorem ofE_sg {n : Nat} (a s : Int) : ofE (n + n) ⟨a, s⟩ = ⟨sg n a, s⟩ := by
  have : (n + n) / 2 = n := by omega
  unfold ofE sg
  rw [this]
  dsimp only
  split <;> rfl
theorem dual_subB {N : List Nd} {B : Int} (hG : GOk N B) (hC : GOk (closeE N) B) {a b : Int} (a0 : 0 ≤ a) (a1 : a < (N.length : Int) + N.length) (b0 : 0 ≤ b) (b1 : b < (N.length : Int) + N.length) : subB (closeE N) ⟨sg N.length b, 0⟩ ⟨sg N.length a, 0⟩ = subB (closeE N) ⟨a, 0⟩ ⟨b, 0⟩ := by
  rw [Bool.eq_iff_iff, subB_iff, subB_iff, key3_eq, key3_eq]
  dsimp only
  rw [show (0 : Int) - 0 = 0 from rfl]
  constructor
  · intro h
    have := dual_subp hG hC h
    rw [(sg_sg a0 a1).1, (sg_sg b0 b1).1] at this
    exact this
  · intro h
    exact dual_subp hG hC h
theorem subtypeDuals_run (a b : T) (hwa : Wf a) (hwb : Wf b) : RW 6 [.d a.data, .d b.data] [] = some (.d (.bool true), []) := by
  have hw := awake11_run
  have sa := small_run a 40 hwa (by omega) (by omega)
  have sb := small_run b 40 hwb (by omega) (by omega)
  have ea := session_run a
  have eb := session_run b
  have da := T.data_eq a
  have db := T.data_eq b
  rw [da] at sa ea
  rw [db] at sb eb
  rw [da, db]
  cases ha : smallB a 40 with
  | false =>
    refine runW_fn rfl rfl ?_
    unfold runFn c6
    simp only [go_sem, hw, sa, ha]
  | true =>
  cases hb : smallB b 40 with
  | false =>
    refine runW_fn rfl rfl ?_
    unfold runFn c6
    simp only [go_sem, hw, sa, ha, sb, hb]
  | true =>
  cases hea : (!decide (a.kind = 1) && !decide (a.kind = 2)) with
  | false =>
    rw [hea] at ea
    refine runW_fn rfl rfl ?_
    unfold runFn c6
    simp only [go_sem, hw, sa, ha, sb, hb, ea]
  | true =>
  rw [hea] at ea
  cases heb : (!decide (b.kind = 1) && !decide (b.kind = 2)) with
  | false =>
    rw [heb] at eb
    refine runW_fn rfl rfl ?_
    unfold runFn c6
    simp only [go_sem, hw, sa, ha, sb, hb, ea, eb]
  | true =>
  rw [heb] at eb
  have ra := small_rgt hwa (by omega) ha
  have rb := small_rgt hwb (by omega) hb
  have oa := small_out hwa (by omega) ha
  have ob := small_out hwb (by omega) hb
  have hall : ∀ t ∈ [a, b], Rgt t := fun t h => by
    simp only [List.mem_cons, List.not_mem_nil, or_false] at h
    rcases h with h | h <;> subst h <;> assumption
  have hsz : T.sizeL [a, b] ≤ 1000 := by rw [T.sizeL, T.sizeL, T.sizeL]; omega
  have hfine := fineR hall (by simp; omega)
  have hg := graph_run [a, b] hfine
  have hG := graph_okR (l := [a, b]) (by simp) hall hsz
  have hlen := nodesL_len [a, b] 0 [] [] hfine.shp
  have hcl : cntL [a, b] = cnt a + cnt b := by rw [cntL, cntL, cntL]; omega
  rw [hcl] at hlen
  rw [rf2 a b ra rb] at hg
  have ca := cnt_le a
  have cb := cnt_le b
  generalize nodesL [a, b] 0 [] [] = N at *
  have hC := close_gok hG (by omega)
  have hcr := close_run N hG.nd
  have hCl := closeE_len N
  have ok : ∀ (i : Int), 0 ≤ i → i < (N.length : Int) + N.length → RefOk (closeE N) ⟨i, 0⟩ ∧ RefOk (closeE N) ⟨sg N.length i, 0⟩ := fun i h0 h1 => by
    have := sg_sg h0 h1
    exact ⟨⟨h0, by dsimp only; omega, by dsimp only; omega⟩, ⟨this.2.1, by have := this.2.2; dsimp only; omega, by dsimp only; omega⟩⟩
  have k0 := ok 0 (by omega) (by omega)
  have k1 := ok (cnt a : Int) (by omega) (by omega)
  have s0 := sg_sg (n := (N.length : Int)) (a := 0) (by omega) (by omega)
  have s1 := sg_sg (n := (N.length : Int)) (a := (cnt a : Int)) (by omega) (by omega)
  have o : ∀ i s : Int, ofE (closeE N).length ⟨i, s⟩ = ⟨sg N.length i, s⟩ := fun i s => by rw [hCl]; exact ofE_sg i s
  have u0 := of_run (closeE N) ⟨0, 0⟩ (by omega) (by dsimp only; omega)
  have u1 := of_run (closeE N) ⟨(cnt a : Int), 0⟩ (by omega) (by dsimp only; omega)
  rw [o] at u0 u1
  have q1 := sub_run hC k0.1 k1.1
  have q2 := sub_run hC k1.2 k0.2
  rw [dual_subB hG hC (a := 0) (b := (cnt a : Int)) (by omega) (by omega) (by omega) (by omega)] at q2
  have q3 := fits_run hC k0.1 k1.2 (by rw [o, s1.1]; exact k1.1)
  rw [o, s1.1] at q3
  have q4 := fits_run hC k0.1 k1.1 (by rw [o]; exact k1.2)
  rw [o] at q4
  have q5 := fits_run hC k1.1 k0.1 (by rw [o]; exact k0.2)
  rw [o] at q5
  have e45 := dual_subB hG hC (a := 0) (b := sg N.length (cnt a : Int)) (by omega) (by omega) s1.2.1 s1.2.2
  rw [s1.1] at e45
  rw [e45] at q5
  have q6 := fits_run hC k0.1 k0.2 (by rw [o, s0.1]; exact k0.1)
  rw [o, s0.1] at q6
  have e6 : subB (closeE N) ⟨0, 0⟩ ⟨0, 0⟩ = true := subB_iff.2 (by rw [key3_eq]; exact subp_refl hC (a := (0 : Int)) (by omega) (by omega))
  rw [e6] at q6
  have d1 : decide (sg N.length 0 < 0) = false := decide_eq_false (by omega)
  have d2 : decide (sg N.length (cnt a : Int) < 0) = false := decide_eq_false (by omega)
  have d3 : decide (((closeE N).length : Int) ≤ sg N.length 0) = false := decide_eq_false (by omega)
  have d4 : decide (((closeE N).length : Int) ≤ sg N.length (cnt a : Int)) = false := decide_eq_false (by omega)
  have e1 : decide (((closeE N).length : Int) = 2 * (N.length : Int)) = true := decide_eq_true (by omega)
  have hw1 : IntKind.wrap .i64 (2 * (N.length : Int)) = 2 * (N.length : Int) := wrap64 (by omega) (by omega)
  generalize subB (closeE N) ⟨0, 0⟩ ⟨(cnt a : Int), 0⟩ = x at q1 q2 q3
  generalize subB (closeE N) ⟨0, 0⟩ ⟨sg N.length (cnt a : Int), 0⟩ = y at q4 q5
  generalize sg N.length 0 = un at *
  generalize sg N.length (cnt a : Int) = vn at *
  generalize closeE N = C at *
  have n0 : (nS 0).data = .agg [.int .i64 0, .int .i64 0] := rfl
  have n1 : (nS (cnt a)).data = .agg [.int .i64 (cnt a : Int), .int .i64 0] := rfl
  simp only [Rf.data_eq] at u0 u1 q1 q2 q3 q4 q5 q6
  rw [List.map_cons, List.map_cons, List.map_nil, List.map_cons, List.map_cons, List.map_nil, n0, n1, da, db] at hg
  generalize cnt a = m1 at *
  refine runW_fn rfl rfl ?_
  unfold runFn c6
  cases x <;> cases y <;> simp only [go_sem, hw, sa, ha, sb, hb, ea, eb, hg, hcr, hw1, e1, u0, u1, d1, d2, d3, d4, q1, q2, q3, q4, q5, q6]
end Go.Proofs.YtijfioakpngdhaaDoor
