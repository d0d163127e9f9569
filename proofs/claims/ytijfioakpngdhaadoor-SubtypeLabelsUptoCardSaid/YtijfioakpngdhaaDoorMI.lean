/- Equal, Alike, Offset; equality is an equivalence. -/
import Derived.Test.YtijfioakpngdhaaDoorMH
namespace Go.Proofs.YtijfioakpngdhaaDoor
open Go.V
set_option maxRecDepth 100000
set_option linter.unusedSimpArgs false
set_option linter.unusedVariables false

noncomputable def eqB (N : List Nd) (a b : Rf) : Bool := @decide (EqP N false (key3 false a b)) (Classical.propDecidable _)
theorem eqB_iff {N : List Nd} {a b : Rf} : eqB N a b = true ↔ EqP N false (key3 false a b) := by unfold eqB; exact @decide_eq_true_iff _ (Classical.propDecidable _)
/-- a reference to a node of a graph, with a shift that is not great -/
structure RefOk (N : List Nd) (a : Rf) : Prop where
  lo : 0 ≤ a.node
  hi : a.node < N.length
  sh : -800000000000000000 ≤ a.shift ∧ a.shift ≤ 800000000000000000
theorem mu_small {N : List Nd} {B : Int} (hG : GOk N B) (free : Bool) : muL N free [] ≤ 100000000 := by
  have h1 := mu_all N free []
  have h2 := hG.small.1
  have : N.length * N.length ≤ 10000 * 10000 := Nat.mul_le_mul h2 h2
  omega
theorem equal_run {N : List Nd} {B : Int} (hG : GOk N B) {a b : Rf} (ha : RefOk N a) (hb : RefOk N b) : RW 31 [.d (.agg [.sl 4 (N.map Nd.data)]), .d a.data, .d b.data] [] = some (.d (.bool (eqB N a b)), []) := by
  have h1 := ha.sh
  have h2 := hb.sh
  obtain ⟨r, M, hr, hp1, hp2⟩ := eq_run N B hG 100000000 a b [] (mu_small hG false) ha.lo ha.hi hb.lo hb.hi (by omega) (by omega)
  have e : eqB N a b = r := by
    cases r with
    | true =>
      obtain ⟨k1, k2⟩ := hp1 rfl
      exact eqB_iff.2 ⟨(· ∈ M), fun q hq => k2 q hq, k1⟩
    | false =>
      cases hb : eqB N a b with
      | false => rfl
      | true => exact absurd (hp2 (eqB_iff.1 hb)) (by decide)
  rw [e]
  rw [List.nil_append] at hr
  unfold eqO at hr
  rw [Rf.data_eq, Rf.data_eq] at hr ⊢
  refine runW_fn rfl rfl ?_
  unfold runFn c31
  have hes : esOf [] = [] := rfl
  rw [hes] at hr
  simp only [go_sem, hr]
/-! ### equality is an equivalence -/
theorem get_of {N : List Nd} {a : Int} (h0 : 0 ≤ a) (h1 : a < N.length) : ∃ x, N[a.toNat]? = some x := ⟨_, List.getElem?_eq_getElem (by omega)⟩
theorem kIdx_self {x : Nd} (h : NS x) {i : Nat} (hi : i < x.next.length) : kIdx x x i = some i := by
  unfold kIdx
  by_cases h0 : x.labels.length = 0
  · rw [if_pos h0]
  · rw [if_neg h0]
    have hl : x.next.length = x.labels.length := by
      have h1 := h.low
      by_cases h3 : x.kind ≤ 3
      · rw [(h.leaf h3).2.1] at h0; exact absurd rfl h0
      · by_cases h4 : x.kind = 4 ∨ x.kind = 5
        · rw [(h.send h4).1] at h0; exact absurd rfl h0
        · exact (h.sel (by omega)).2
    have hk : x.labels[i]? = some (x.labels[i]'(by omega)) := List.getElem?_eq_getElem _
    rw [hk]
    exact idx_nodup h.nodup hk
theorem eqp_refl {N : List Nd} {B : Int} (hG : GOk N B) (free : Bool) {a : Int} (h0 : 0 ≤ a) (h1 : a < N.length) : EqP N free (a, a, 0) := by
  refine ⟨fun q => ∃ i, 0 ≤ i ∧ i < (N.length : Int) ∧ q = (i, i, 0), fun q hq => ?_, a, h0, h1, rfl⟩
  obtain ⟨i, i0, i1, rfl⟩ := hq
  obtain ⟨x, hx⟩ := get_of i0 i1
  have hm := List.mem_of_getElem? hx
  refine ⟨x, x, i0, i0, hx, hx, rfl, rfl, fun _ _ => by dsimp only; omega, fun j r hr => ⟨j, r, kIdx_self (hG.ns x hm) (List.getElem?_eq_some_iff.1 hr).1, hr, ?_⟩⟩
  have := hG.refs x hm r (List.mem_of_getElem? hr)
  refine ⟨r.node, this.1, this.2, ?_⟩
  dsimp only
  unfold ndf
  split
  · rfl
  · rw [show (0 : Int) + r.shift - r.shift = 0 by omega]
/-- lists without doubles, one inside the other, of one length -/
theorem nodup_cover : ∀ {l m : List (List UInt8)}, l.Nodup → (∀ x ∈ l, x ∈ m) → m.length ≤ l.length → ∀ x ∈ m, x ∈ l := by
  intro l
  induction l with
  | nil =>
    intro m _ _ hl x hx
    have := List.eq_nil_of_length_eq_zero (l := m) (by simpa using hl)
    rw [this] at hx; cases hx
  | cons y l ih =>
    intro m hd hs hl x hx
    rw [List.nodup_cons] at hd
    by_cases e : x = y
    · rw [e]; exact List.mem_cons_self
    · have hym : y ∈ m := hs y List.mem_cons_self
      have hlen := List.length_erase_of_mem hym
      have := ih (m := m.erase y) hd.2 (fun z hz => by
        have hzy : z ≠ y := fun h => hd.1 (h ▸ hz)
        exact (List.mem_erase_of_ne hzy).2 (hs z (List.mem_cons_of_mem _ hz))) (by rw [List.length_cons] at hl; omega) x ((List.mem_erase_of_ne e).2 hx)
      exact List.mem_cons_of_mem _ this
theorem ns_lab {x : Nd} (h : NS x) (h0 : x.labels.length ≠ 0) : x.next.length = x.labels.length := by
  have h1 := h.low
  by_cases h3 : x.kind ≤ 3
  · rw [(h.leaf h3).2.1] at h0; exact absurd rfl h0
  · by_cases h4 : x.kind = 4 ∨ x.kind = 5
    · rw [(h.send h4).1] at h0; exact absurd rfl h0
    · exact (h.sel (by omega)).2
theorem ns_len {x y : Nd} (hx : NS x) (hy : NS y) (hk : x.kind = y.kind) (hl : x.labels.length = y.labels.length) : x.next.length = y.next.length := by
  have h1 := hx.low
  by_cases h3 : x.kind ≤ 3
  · rw [(hx.leaf h3).1, (hy.leaf (by omega)).1]
  · by_cases h4 : x.kind = 4 ∨ x.kind = 5
    · rw [(hx.send h4).2, (hy.send (by omega)).2]
    · rw [(hx.sel (by omega)).2, (hy.sel (by omega)).2, hl]
/-- the places of two fitting nodes go both ways -/
theorem kIdx_back {x y : Nd} (hx : NS x) (hy : NS y) (hk : x.kind = y.kind) (hl : x.labels.length = y.labels.length) (hf : ∀ i, i < x.next.length → ∃ k, kIdx x y i = some k) {j : Nat} (hj : j < y.next.length) :
    ∃ i, i < x.next.length ∧ kIdx x y i = some j ∧ kIdx y x j = some i := by
  have hn := ns_len hx hy hk hl
  by_cases h0 : x.labels.length = 0
  · refine ⟨j, by omega, ?_, ?_⟩
    · unfold kIdx; rw [if_pos h0]
    · unfold kIdx; rw [if_pos (by omega)]
  · have hxl := ns_lab hx h0
    have hyl := ns_lab hy (by omega)
    have hkj : y.labels[j]? = some (y.labels[j]'(by omega)) := List.getElem?_eq_getElem _
    have hsub : ∀ z ∈ x.labels, z ∈ y.labels := by
      intro z hz
      obtain ⟨i, hi⟩ := List.mem_iff_getElem?.1 hz
      obtain ⟨k, hk'⟩ := hf i (by have := (List.getElem?_eq_some_iff.1 hi).1; omega)
      unfold kIdx at hk'
      rw [if_neg h0, hi] at hk'
      exact List.mem_of_getElem? (idx_get hk')
    have hm := nodup_cover hx.nodup hsub (by omega) _ (List.mem_of_getElem? hkj)
    obtain ⟨i, hi⟩ := List.mem_iff_getElem?.1 hm
    refine ⟨i, by have := (List.getElem?_eq_some_iff.1 hi).1; omega, ?_, ?_⟩
    · unfold kIdx; rw [if_neg h0, hi]; exact idx_nodup hy.nodup hkj
    · unfold kIdx; rw [if_neg (by omega), hkj]; exact idx_nodup hx.nodup hi
theorem ndf_neg (free : Bool) (d : Int) : ndf free (-d) = -ndf free d := by unfold ndf; split <;> simp
theorem eqp_symm {N : List Nd} {B : Int} (hG : GOk N B) {free : Bool} {a b d : Int} (h : EqP N free (a, b, d)) : EqP N free (b, a, -d) := by
  refine ⟨fun q => EqP N free (q.2.1, q.1, -q.2.2), fun q hq => ?_, by dsimp only; rw [Int.neg_neg]; exact h⟩
  obtain ⟨a, b, d⟩ := q
  dsimp only at hq
  obtain ⟨x, y, h1, h2, h3, h4, h5, h6, h7, h8⟩ := hq.loc
  dsimp only at h1 h2 h3 h4 h7 h8
  have hxm := hG.ns x (List.mem_of_getElem? h3)
  have hym := hG.ns y (List.mem_of_getElem? h4)
  refine ⟨y, x, h2, h1, h4, h3, h5.symm, h6.symm, fun hf ha => ?_, fun j r hr => ?_⟩
  · have := h7 hf (by rw [h5]; exact ha); dsimp only; omega
  · obtain ⟨i, hi, k1, k2⟩ := kIdx_back hxm hym h5 h6 (fun i hi => by
      obtain ⟨k, q, hk, _⟩ := h8 i _ (List.getElem?_eq_getElem hi)
      exact ⟨k, hk⟩) (List.getElem?_eq_some_iff.1 hr).1
    obtain ⟨k, q, hk, hq, hE⟩ := h8 i _ (List.getElem?_eq_getElem hi)
    rw [k1] at hk
    injection hk with hk
    subst hk
    rw [hr] at hq
    injection hq with hq
    subst hq
    refine ⟨i, _, k2, List.getElem?_eq_getElem hi, ?_⟩
    show EqP N free (_, _, _)
    dsimp only
    rw [← ndf_neg]
    rw [show -(d + r.shift - x.next[i].shift) = -d + x.next[i].shift - r.shift by omega]
    exact hE
theorem ndf_add (free : Bool) (d e : Int) : ndf free d + ndf free e = ndf free (d + e) := by unfold ndf; split <;> simp
theorem eqp_trans {N : List Nd} {free : Bool} {a b c d e : Int} (h : EqP N free (a, b, d)) (k : EqP N free (b, c, e)) : EqP N free (a, c, d + e) := by
  refine ⟨fun q => ∃ m d e, EqP N free (q.1, m, d) ∧ EqP N free (m, q.2.1, e) ∧ q.2.2 = d + e, fun q hq => ?_, b, d, e, h, k, rfl⟩
  obtain ⟨a, c, f⟩ := q
  obtain ⟨b, d, e, h, k, hf⟩ := hq
  dsimp only at h k hf
  subst hf
  obtain ⟨x, y, h1, h2, h3, h4, h5, h6, h7, h8⟩ := h.loc
  obtain ⟨y', z, k1, k2, k3, k4, k5, k6, k7, k8⟩ := k.loc
  dsimp only at h1 h2 h3 h4 h7 h8 k1 k2 k3 k4 k7 k8
  rw [h4] at k3
  injection k3 with k3
  subst k3
  refine ⟨x, z, h1, k2, h3, k4, h5.trans k5, h6.trans k6, fun hf ha => ?_, fun i r hr => ?_⟩
  · have e1 := h7 hf ha
    have e2 := k7 hf (by rw [← h5]; exact ha)
    dsimp only; omega
  · obtain ⟨j, q, m1, m2, m3⟩ := h8 i r hr
    obtain ⟨l, s, n1, n2, n3⟩ := k8 j q m2
    refine ⟨l, s, ?_, n2, q.node, _, _, m3, n3, ?_⟩
    · unfold kIdx at m1 n1 ⊢
      by_cases h0 : x.labels.length = 0
      · rw [if_pos h0] at m1 ⊢
        rw [if_pos (by omega)] at n1
        injection m1 with m1
        subst m1; exact n1
      · rw [if_neg h0] at m1 ⊢
        rw [if_neg (by omega)] at n1
        cases hl : x.labels[i]? with
        | none => rw [hl] at m1; cases m1
        | some lb =>
          rw [hl] at m1
          dsimp only at m1 ⊢
          rw [idx_get m1] at n1
          exact n1
    · dsimp only
      rw [ndf_add]
      congr 1
      omega
/-- equal references are alike -/
theorem eqp_alike {N : List Nd} {a b d : Int} (h : EqP N false (a, b, d)) : EqP N true (a, b, 0) := by
  refine ⟨fun q => ∃ d, EqP N false (q.1, q.2.1, d) ∧ q.2.2 = 0, fun q hq => ?_, d, h, rfl⟩
  obtain ⟨a, b, z⟩ := q
  obtain ⟨d, h, hz⟩ := hq
  dsimp only at h hz
  subst hz
  obtain ⟨x, y, h1, h2, h3, h4, h5, h6, h7, h8⟩ := h.loc
  refine ⟨x, y, h1, h2, h3, h4, h5, h6, (fun h => by cases h), fun i r hr => ?_⟩
  obtain ⟨j, q, m1, m2, m3⟩ := h8 i r hr
  exact ⟨j, q, m1, m2, _, m3, by unfold ndf; rw [if_pos rfl]⟩
end Go.Proofs.YtijfioakpngdhaaDoor
