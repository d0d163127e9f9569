/- Subtyping is reflexive and transitive; types that are subtypes of each other are equal. -/
import Derived.Test.YtijfioakpngdhaaDoorMJ
namespace Go.Proofs.YtijfioakpngdhaaDoor
open Go.V
set_option maxRecDepth 100000
set_option linter.unusedSimpArgs false
set_option linter.unusedVariables false

theorem labPair_out {x y : Nd} {d : Int} {s : List UInt8} {p : K3} (h : labPair x y d s = some p) : ∃ i j r q, idx? x.labels s = some i ∧ idx? y.labels s = some j ∧ x.next[i]? = some r ∧ y.next[j]? = some q ∧ p = (r.node, q.node, d + r.shift - q.shift) := by
  unfold labPair at h
  cases hi : idx? x.labels s with
  | none => rw [hi] at h; cases h
  | some i =>
    cases hj : idx? y.labels s with
    | none => rw [hi, hj] at h; cases h
    | some j =>
      rw [hi, hj] at h
      dsimp only at h
      cases hr : x.next[i]? with
      | none => rw [hr] at h; cases h
      | some r =>
        cases hq : y.next[j]? with
        | none => rw [hr, hq] at h; cases h
        | some q => rw [hr, hq] at h; injection h with h; exact ⟨i, j, r, q, rfl, rfl, hr, hq, h.symm⟩
theorem labPair_in {x y : Nd} {d : Int} {s : List UInt8} {i j : Nat} {r q : Rf} (h1 : idx? x.labels s = some i) (h2 : idx? y.labels s = some j) (h3 : x.next[i]? = some r) (h4 : y.next[j]? = some q) : labPair x y d s = some (r.node, q.node, d + r.shift - q.shift) := by
  unfold labPair
  rw [h1, h2]
  dsimp only
  rw [h3, h4]
theorem mem_idx {l : List (List UInt8)} {s : List UInt8} {i : Nat} (h : idx? l s = some i) : s ∈ l := List.mem_of_getElem? (idx_get h)
theorem lab_next {x : Nd} (nx : NS x) {s : List UInt8} {i : Nat} (h : idx? x.labels s = some i) : ∃ r, x.next[i]? = some r := by
  have h1 := (List.getElem?_eq_some_iff.1 (idx_get h)).1
  have h2 := ns_lab nx (by omega)
  exact ⟨_, List.getElem?_eq_getElem (by omega)⟩
/-- the two parts of a sending or a receiving node -/
theorem two_next {x : Nd} (nx : NS x) (h : x.kind = 4 ∨ x.kind = 5) : ∃ r0 r1, x.next = [r0, r1] := by
  have := (nx.send h).2
  match hx : x.next, this with
  | [a, b], _ => exact ⟨a, b, rfl⟩
/-- what subtyping needs, told by kinds -/
def Needs (x y : Nd) (d : Int) (S : K3 → Prop) : Prop :=
  (x.kind = 4 → ∀ r0 r1 q0 q1, x.next = [r0, r1] → y.next = [q0, q1] → S (q0.node, r0.node, q0.shift - r0.shift - d) ∧ S (r1.node, q1.node, d + r1.shift - q1.shift)) ∧
  (x.kind = 5 → ∀ r0 r1 q0 q1, x.next = [r0, r1] → y.next = [q0, q1] → S (r0.node, q0.node, d + r0.shift - q0.shift) ∧ S (r1.node, q1.node, d + r1.shift - q1.shift)) ∧
  (x.kind = 6 → ∀ s ∈ y.labels, ∃ p, labPair x y d s = some p ∧ S p) ∧ (x.kind = 7 → ∀ s ∈ x.labels, ∃ p, labPair x y d s = some p ∧ S p)
theorem needs_of {x y : Nd} {d : Int} {S : K3 → Prop} (hk : x.kind = y.kind) (nx : NS x) (ny : NS y) (h : ∃ l, needS x y d = some l ∧ ∀ q ∈ l, S q) : Needs x y d S := by
  obtain ⟨l, h, hall⟩ := h
  unfold needS at h
  refine ⟨fun h4 r0 r1 q0 q1 hr hq => ?_, fun h5 r0 r1 q0 q1 hr hq => ?_, fun h6 s hs => ?_, fun h7 s hs => ?_⟩
  · rw [if_pos (.inl h4), decide_eq_true h4] at h
    unfold idxPair at h
    rw [hr, hq] at h
    injection h with h
    subst h
    exact ⟨hall _ List.mem_cons_self, hall _ (List.mem_cons_of_mem _ List.mem_cons_self)⟩
  · rw [if_pos (.inr h5), decide_eq_false (by omega)] at h
    unfold idxPair at h
    rw [hr, hq] at h
    injection h with h
    subst h
    exact ⟨hall _ List.mem_cons_self, hall _ (List.mem_cons_of_mem _ List.mem_cons_self)⟩
  · rw [if_neg (by omega), if_pos h6] at h
    obtain ⟨p, hp⟩ := labPairs_all h s hs
    exact ⟨p, hp, hall p ((labPairs_mem h p).2 ⟨s, hs, hp⟩)⟩
  · rw [if_neg (by omega), if_neg (by omega), if_pos h7] at h
    obtain ⟨p, hp⟩ := labPairs_all h s hs
    exact ⟨p, hp, hall p ((labPairs_mem h p).2 ⟨s, hs, hp⟩)⟩
theorem of_needs {x y : Nd} {d : Int} {S : K3 → Prop} (hk : x.kind = y.kind) (nx : NS x) (ny : NS y) (h : Needs x y d S) : ∃ l, needS x y d = some l ∧ ∀ q ∈ l, S q := by
  obtain ⟨h4, h5, h6, h7⟩ := h
  unfold needS
  by_cases k45 : x.kind = 4 ∨ x.kind = 5
  · obtain ⟨r0, r1, hr⟩ := two_next nx k45
    obtain ⟨q0, q1, hq⟩ := two_next ny (by omega)
    rw [if_pos k45]
    unfold idxPair
    rw [hr, hq]
    refine ⟨_, rfl, fun p hp => ?_⟩
    rcases k45 with k | k
    · obtain ⟨s1, s2⟩ := h4 k r0 r1 q0 q1 hr hq
      rw [if_pos (decide_eq_true k)] at hp
      rcases List.mem_cons.1 hp with e | hp
      · rw [e]; exact s1
      · rw [List.mem_singleton.1 hp]; exact s2
    · obtain ⟨s1, s2⟩ := h5 k r0 r1 q0 q1 hr hq
      rw [if_neg (by rw [decide_eq_false (by omega)]; decide)] at hp
      rcases List.mem_cons.1 hp with e | hp
      · rw [e]; exact s1
      · rw [List.mem_singleton.1 hp]; exact s2
  · rw [if_neg k45]
    by_cases k6 : x.kind = 6
    · rw [if_pos k6]
      obtain ⟨l, hl⟩ := labPairs_some (l := y.labels) fun s hs => ⟨_, (h6 k6 s hs).choose_spec.1⟩
      refine ⟨l, hl, fun p hp => ?_⟩
      obtain ⟨s, hs, he⟩ := (labPairs_mem hl p).1 hp
      obtain ⟨p', e1, e2⟩ := h6 k6 s hs
      rw [he] at e1
      injection e1 with e1
      rw [e1]; exact e2
    · rw [if_neg k6]
      by_cases k7 : x.kind = 7
      · rw [if_pos k7]
        obtain ⟨l, hl⟩ := labPairs_some (l := x.labels) fun s hs => ⟨_, (h7 k7 s hs).choose_spec.1⟩
        refine ⟨l, hl, fun p hp => ?_⟩
        obtain ⟨s, hs, he⟩ := (labPairs_mem hl p).1 hp
        obtain ⟨p', e1, e2⟩ := h7 k7 s hs
        rw [he] at e1
        injection e1 with e1
        rw [e1]; exact e2
      · rw [if_neg k7]
        exact ⟨[], rfl, fun q hq => by cases hq⟩
/-- the rule of a pair, with its nodes -/
structure SNode (N : List Nd) (p : K3) (x y : Nd) (S : K3 → Prop) : Prop where
  lo : 0 ≤ p.1 ∧ 0 ≤ p.2.1
  hx : N[p.1.toNat]? = some x
  hy : N[p.2.1.toNat]? = some y
  kind : x.kind = y.kind
  prio : actB x.kind = true → x.prio + p.2.2 = y.prio
  needs : Needs x y p.2.2 S
theorem SubP.node {N : List Nd} {B : Int} (hG : GOk N B) {p : K3} (h : SubP N p) : ∃ x y, SNode N p x y (SubP N) := by
  obtain ⟨x, y, h1, h2, h3, h4, h5, h6, h7⟩ := h.loc
  exact ⟨x, y, ⟨h1, h2⟩, h3, h4, h5, h6, needs_of h5 (hG.ns x (List.mem_of_getElem? h3)) (hG.ns y (List.mem_of_getElem? h4)) h7⟩
theorem SNode.loc {N : List Nd} {B : Int} (hG : GOk N B) {p : K3} {x y : Nd} {S : K3 → Prop} (h : SNode N p x y S) : LocS N p S :=
  ⟨x, y, h.lo.1, h.lo.2, h.hx, h.hy, h.kind, h.prio, of_needs h.kind (hG.ns x (List.mem_of_getElem? h.hx)) (hG.ns y (List.mem_of_getElem? h.hy)) h.needs⟩
theorem subP_of {N : List Nd} {B : Int} (hG : GOk N B) (R : K3 → Prop) (hR : ∀ q, R q → ∃ x y, SNode N q x y R) {p : K3} (h : R p) : SubP N p :=
  ⟨R, fun q hq => by obtain ⟨x, y, h⟩ := hR q hq; exact h.loc hG, h⟩

theorem subp_refl {N : List Nd} {B : Int} (hG : GOk N B) {a : Int} (h0 : 0 ≤ a) (h1 : a < N.length) : SubP N (a, a, 0) := by
  refine subP_of hG (fun q => ∃ i, 0 ≤ i ∧ i < (N.length : Int) ∧ q = (i, i, 0)) (fun q hq => ?_) ⟨a, h0, h1, rfl⟩
  obtain ⟨i, i0, i1, rfl⟩ := hq
  obtain ⟨x, hx⟩ := get_of i0 i1
  have hm := List.mem_of_getElem? hx
  have nx := hG.ns x hm
  have rfs := hG.refs x hm
  have lab : ∀ s ∈ x.labels, ∃ p, labPair x x 0 s = some p ∧ ∃ i, 0 ≤ i ∧ i < (N.length : Int) ∧ p = (i, i, 0) := fun s hs => by
    obtain ⟨j, hj⟩ := idx_mem hs
    obtain ⟨r, hr⟩ := lab_next nx hj
    have := rfs r (List.mem_of_getElem? hr)
    exact ⟨_, labPair_in hj hj hr hr, r.node, this.1, this.2, by rw [show (0 : Int) + r.shift - r.shift = 0 by omega]⟩
  refine ⟨x, x, ⟨i0, i0⟩, hx, hx, rfl, fun _ => by dsimp only; omega, fun k r0 r1 q0 q1 hr hq => ?_, fun k r0 r1 q0 q1 hr hq => ?_, fun k => lab, fun k => lab⟩
  · rw [hr] at hq rfs
    injection hq with e1 hq
    injection hq with e2 hq
    subst e1; subst e2
    have m0 := rfs r0 List.mem_cons_self
    have m1 := rfs r1 (List.mem_cons_of_mem _ List.mem_cons_self)
    exact ⟨⟨r0.node, m0.1, m0.2, by dsimp only; rw [show r0.shift - r0.shift - 0 = 0 by omega]⟩, ⟨r1.node, m1.1, m1.2, by dsimp only; rw [show (0 : Int) + r1.shift - r1.shift = 0 by omega]⟩⟩
  · rw [hr] at hq rfs
    injection hq with e1 hq
    injection hq with e2 hq
    subst e1; subst e2
    have m0 := rfs r0 List.mem_cons_self
    have m1 := rfs r1 (List.mem_cons_of_mem _ List.mem_cons_self)
    exact ⟨⟨r0.node, m0.1, m0.2, by dsimp only; rw [show (0 : Int) + r0.shift - r0.shift = 0 by omega]⟩, ⟨r1.node, m1.1, m1.2, by dsimp only; rw [show (0 : Int) + r1.shift - r1.shift = 0 by omega]⟩⟩
theorem subp_trans {N : List Nd} {B : Int} (hG : GOk N B) {a b c d e : Int} (h : SubP N (a, b, d)) (g : SubP N (b, c, e)) : SubP N (a, c, d + e) := by
  refine subP_of hG (fun q => ∃ m d e, SubP N (q.1, m, d) ∧ SubP N (m, q.2.1, e) ∧ q.2.2 = d + e) (fun q hq => ?_) ⟨b, d, e, h, g, rfl⟩
  obtain ⟨a, c, f⟩ := q
  obtain ⟨b, d, e, h, g, he⟩ := hq
  dsimp only at h g he
  subst he
  obtain ⟨x, y, s1⟩ := h.node hG
  obtain ⟨y', z, s2⟩ := g.node hG
  have e0 := s1.hy.symm.trans s2.hx
  injection e0 with e0
  subst e0
  have nx := hG.ns x (List.mem_of_getElem? s1.hx)
  have ny := hG.ns y (List.mem_of_getElem? s1.hy)
  have nz := hG.ns z (List.mem_of_getElem? s2.hy)
  have comb : ∀ s p q, labPair x y d s = some p → labPair y z e s = some q → SubP N p → SubP N q → ∃ o, labPair x z (d + e) s = some o ∧ ∃ m d e, SubP N (o.1, m, d) ∧ SubP N (m, o.2.1, e) ∧ o.2.2 = d + e := by
    intro s p q hp hq Sp Sq
    obtain ⟨i, j, r, t, p1, p2, p3, p4, rfl⟩ := labPair_out hp
    obtain ⟨j', k, t', u, q1, q2, q3, q4, rfl⟩ := labPair_out hq
    rw [p2] at q1
    injection q1 with q1
    subst q1
    rw [p4] at q3
    injection q3 with q3
    subst q3
    exact ⟨_, labPair_in p1 q2 p3 q4, _, _, _, Sp, Sq, by dsimp only; omega⟩
  refine ⟨x, z, ⟨s1.lo.1, s2.lo.2⟩, s1.hx, s2.hy, s1.kind.trans s2.kind, fun ha => ?_, fun k r0 r1 q0 q1 hr hq => ?_, fun k r0 r1 q0 q1 hr hq => ?_, fun k s hs => ?_, fun k s hs => ?_⟩
  · have := s1.prio ha
    have := s2.prio (by rw [← s1.kind]; exact ha)
    dsimp only at *
    omega
  · have k2 : y.kind = 4 := by rw [← s1.kind]; exact k
    obtain ⟨t0, t1, ht⟩ := two_next ny (.inl k2)
    obtain ⟨u1, u2⟩ := s1.needs.1 k r0 r1 t0 t1 hr ht
    obtain ⟨v1, v2⟩ := s2.needs.1 k2 t0 t1 q0 q1 ht hq
    exact ⟨⟨_, _, _, v1, u1, by dsimp only; omega⟩, ⟨_, _, _, u2, v2, by dsimp only; omega⟩⟩
  · have k2 : y.kind = 5 := by rw [← s1.kind]; exact k
    obtain ⟨t0, t1, ht⟩ := two_next ny (.inr k2)
    obtain ⟨u1, u2⟩ := s1.needs.2.1 k r0 r1 t0 t1 hr ht
    obtain ⟨v1, v2⟩ := s2.needs.2.1 k2 t0 t1 q0 q1 ht hq
    exact ⟨⟨_, _, _, u1, v1, by dsimp only; omega⟩, ⟨_, _, _, u2, v2, by dsimp only; omega⟩⟩
  · obtain ⟨q, hq, Sq⟩ := s2.needs.2.2.1 (by rw [← s1.kind]; exact k) s hs
    obtain ⟨j', k', t', u, q1, q2, q3, q4, _⟩ := labPair_out hq
    obtain ⟨p, hp, Sp⟩ := s1.needs.2.2.1 k s (mem_idx q1)
    exact comb s p q hp hq Sp Sq
  · obtain ⟨p, hp, Sp⟩ := s1.needs.2.2.2 k s hs
    obtain ⟨j', k', t', u, q1, q2, q3, q4, _⟩ := labPair_out hp
    obtain ⟨q, hq, Sq⟩ := s2.needs.2.2.2 (by rw [← s1.kind]; exact k) s (mem_idx q2)
    exact comb s p q hp hq Sp Sq
theorem nodup_le : ∀ {l m : List (List UInt8)}, l.Nodup → (∀ x ∈ l, x ∈ m) → l.length ≤ m.length
  | [], m, _, _ => Nat.zero_le _
  | x :: l, m, hn, h => by
    have hn := List.nodup_cons.1 hn
    have hx := h x List.mem_cons_self
    have := nodup_le (l := l) (m := m.erase x) hn.2 fun y hy => (List.mem_erase_of_ne (fun (e : y = x) => hn.1 (e ▸ hy))).2 (h y (List.mem_cons_of_mem _ hy))
    rw [List.length_erase_of_mem hx] at this
    have := List.length_pos_of_mem hx
    rw [List.length_cons]
    omega
theorem sub_of_eqp {N : List Nd} {B : Int} (hG : GOk N B) {a b d : Int} (h : EqP N false (a, b, d)) : SubP N (a, b, d) := by
  refine subP_of hG (EqP N false) (fun q hq => ?_) h
  obtain ⟨a, b, d⟩ := q
  obtain ⟨x, y, h1, h2, h3, h4, h5, h6, h7, h8⟩ := hq.loc
  obtain ⟨y', x', g1, g2, g3, g4, g5, g6, g7, g8⟩ := (eqp_symm hG hq).loc
  have e0 := h4.symm.trans g3
  injection e0 with e0
  subst e0
  have e0 := h3.symm.trans g4
  injection e0 with e0
  subst e0
  have nx := hG.ns x (List.mem_of_getElem? h3)
  have ny := hG.ns y (List.mem_of_getElem? h4)
  dsimp only at *
  have lz : x.kind = 4 ∨ x.kind = 5 → ∀ i, kIdx x y i = some i := fun h i => by unfold kIdx; rw [if_pos (by rw [(nx.send h).1]; rfl)]
  have one : (x.kind = 4 ∨ x.kind = 5) → ∀ (i : Nat) r q, x.next[i]? = some r → y.next[i]? = some q → EqP N false (r.node, q.node, d + r.shift - q.shift) := fun hk i r q hr hq => by
    obtain ⟨k, q', k1, k2, k3⟩ := h8 i r hr
    rw [lz hk] at k1
    injection k1 with k1
    subst k1
    rw [hq] at k2
    injection k2 with k2
    subst k2
    unfold ndf at k3
    rw [if_neg (by decide)] at k3
    exact k3
  have lab : ∀ s i, idx? x.labels s = some i → ∃ p, labPair x y d s = some p ∧ EqP N false p := fun s i hi => by
    obtain ⟨r, hr⟩ := lab_next nx hi
    obtain ⟨k, q, k1, k2, k3⟩ := h8 i r hr
    have hs := idx_get hi
    have hl := (List.getElem?_eq_some_iff.1 hs).1
    unfold kIdx at k1
    rw [if_neg (by omega), hs] at k1
    unfold ndf at k3
    rw [if_neg (by decide)] at k3
    exact ⟨_, labPair_in hi k1 hr k2, k3⟩
  refine ⟨x, y, ⟨h1, h2⟩, h3, h4, h5, h7 rfl, fun k r0 r1 q0 q1 hr hq => ?_, fun k r0 r1 q0 q1 hr hq => ?_, fun k s hs => ?_, fun k s hs => ?_⟩
  · have u1 := one (.inl k) 0 r0 q0 (by rw [hr]; rfl) (by rw [hq]; rfl)
    have u2 := one (.inl k) 1 r1 q1 (by rw [hr]; rfl) (by rw [hq]; rfl)
    have := eqp_symm hG u1
    rw [show -(d + r0.shift - q0.shift) = q0.shift - r0.shift - d by omega] at this
    exact ⟨this, u2⟩
  · exact ⟨one (.inr k) 0 r0 q0 (by rw [hr]; rfl) (by rw [hq]; rfl), one (.inr k) 1 r1 q1 (by rw [hr]; rfl) (by rw [hq]; rfl)⟩
  · obtain ⟨j, hj⟩ := idx_mem hs
    obtain ⟨q, hq⟩ := lab_next ny hj
    obtain ⟨k', r, k1, k2, k3⟩ := g8 j q hq
    have hs' := idx_get hj
    have hl := (List.getElem?_eq_some_iff.1 hs').1
    unfold kIdx at k1
    rw [if_neg (by omega), hs'] at k1
    exact lab s k' k1
  · obtain ⟨j, hj⟩ := idx_mem hs
    exact lab s j hj
theorem eqp_of_sub {N : List Nd} {B : Int} (hG : GOk N B) {a b d : Int} (h : SubP N (a, b, d)) (g : SubP N (b, a, -d)) : EqP N false (a, b, d) := by
  refine ⟨fun q => SubP N q ∧ SubP N (q.2.1, q.1, -q.2.2), fun q hq => ?_, h, g⟩
  obtain ⟨a, b, d⟩ := q
  obtain ⟨h, g⟩ := hq
  dsimp only at h g
  obtain ⟨x, y, s1⟩ := h.node hG
  obtain ⟨y', x', s2⟩ := g.node hG
  have e0 := s1.hy.symm.trans s2.hx
  injection e0 with e0
  subst e0
  have e0 := s1.hx.symm.trans s2.hy
  injection e0 with e0
  subst e0
  have nx := hG.ns x (List.mem_of_getElem? s1.hx)
  have ny := hG.ns y (List.mem_of_getElem? s1.hy)
  have hk := s1.kind
  have n1 := s1.needs
  have n2 := s2.needs
  dsimp only at n1 n2
  -- the labels are the same
  have sub1 : x.kind = 6 ∨ x.kind = 7 → (∀ s ∈ x.labels, s ∈ y.labels) ∧ (∀ s ∈ y.labels, s ∈ x.labels) := by
    rintro (k | k)
    · exact ⟨fun s hs => by obtain ⟨p, hp, _⟩ := n2.2.2.1 (by omega) s hs; obtain ⟨i, j, _, _, q1, _⟩ := labPair_out hp; exact mem_idx q1,
        fun s hs => by obtain ⟨p, hp, _⟩ := n1.2.2.1 k s hs; obtain ⟨i, j, _, _, q1, _⟩ := labPair_out hp; exact mem_idx q1⟩
    · exact ⟨fun s hs => by obtain ⟨p, hp, _⟩ := n1.2.2.2 k s hs; obtain ⟨i, j, _, _, _, q1, _⟩ := labPair_out hp; exact mem_idx q1,
        fun s hs => by obtain ⟨p, hp, _⟩ := n2.2.2.2 (by omega) s hs; obtain ⟨i, j, _, _, _, q1, _⟩ := labPair_out hp; exact mem_idx q1⟩
  have pairs : x.kind = 6 ∨ x.kind = 7 → ∀ s ∈ x.labels, ∃ p q, labPair x y d s = some p ∧ labPair y x (-d) s = some q ∧ SubP N p ∧ SubP N q := by
    intro k s hs
    have hs' := (sub1 k).1 s hs
    rcases k with k | k
    · obtain ⟨p, hp, Sp⟩ := n1.2.2.1 k s hs'
      obtain ⟨q, hq, Sq⟩ := n2.2.2.1 (by omega) s hs
      exact ⟨p, q, hp, hq, Sp, Sq⟩
    · obtain ⟨p, hp, Sp⟩ := n1.2.2.2 k s hs
      obtain ⟨q, hq, Sq⟩ := n2.2.2.2 (by omega) s hs'
      exact ⟨p, q, hp, hq, Sp, Sq⟩
  have hlen : x.labels.length = y.labels.length := by
    have := nx.low
    by_cases k3 : x.kind ≤ 3
    · rw [(nx.leaf k3).2.1, (ny.leaf (by omega)).2.1]
    · by_cases k4 : x.kind = 4 ∨ x.kind = 5
      · rw [(nx.send k4).1, (ny.send (by omega)).1]
      · have k := sub1 (by omega)
        have := nodup_le nx.nodup k.1
        have := nodup_le ny.nodup k.2
        omega
  refine ⟨x, y, s1.lo.1, s1.lo.2, s1.hx, s1.hy, s1.kind, hlen, fun _ => s1.prio, fun i r hr => ?_⟩
  have hi := (List.getElem?_eq_some_iff.1 hr).1
  have low := nx.low
  by_cases k3 : x.kind ≤ 3
  · rw [(nx.leaf k3).1] at hr; cases hr
  · show ∃ k q, kIdx x y i = some k ∧ y.next[k]? = some q ∧ (SubP N (r.node, q.node, d + r.shift - q.shift) ∧ SubP N (q.node, r.node, -(d + r.shift - q.shift)))
    by_cases k45 : x.kind = 4 ∨ x.kind = 5
    · obtain ⟨r0, r1, hx2⟩ := two_next nx k45
      obtain ⟨q0, q1, hy2⟩ := two_next ny (by omega)
      have lz : kIdx x y i = some i := by unfold kIdx; rw [if_pos (by rw [(nx.send k45).1]; rfl)]
      have both : (SubP N (r0.node, q0.node, d + r0.shift - q0.shift) ∧ SubP N (q0.node, r0.node, -(d + r0.shift - q0.shift))) ∧ (SubP N (r1.node, q1.node, d + r1.shift - q1.shift) ∧ SubP N (q1.node, r1.node, -(d + r1.shift - q1.shift))) := by
        rcases k45 with k | k
        · obtain ⟨u1, u2⟩ := n1.1 k r0 r1 q0 q1 hx2 hy2
          obtain ⟨v1, v2⟩ := n2.1 (by omega) q0 q1 r0 r1 hy2 hx2
          rw [show r0.shift - q0.shift - -d = d + r0.shift - q0.shift by omega] at v1
          rw [show q0.shift - r0.shift - d = -(d + r0.shift - q0.shift) by omega] at u1
          rw [show -d + q1.shift - r1.shift = -(d + r1.shift - q1.shift) by omega] at v2
          exact ⟨⟨v1, u1⟩, ⟨u2, v2⟩⟩
        · obtain ⟨u1, u2⟩ := n1.2.1 k r0 r1 q0 q1 hx2 hy2
          obtain ⟨v1, v2⟩ := n2.2.1 (by omega) q0 q1 r0 r1 hy2 hx2
          rw [show -d + q0.shift - r0.shift = -(d + r0.shift - q0.shift) by omega] at v1
          rw [show -d + q1.shift - r1.shift = -(d + r1.shift - q1.shift) by omega] at v2
          exact ⟨⟨u1, v1⟩, ⟨u2, v2⟩⟩
      rw [hx2] at hr hi
      match i, hr, hi, lz with
      | 0, hr, _, lz => injection hr with hr; subst hr; exact ⟨0, q0, lz, by rw [hy2]; rfl, both.1⟩
      | 1, hr, _, lz => injection hr with hr; subst hr; exact ⟨1, q1, lz, by rw [hy2]; rfl, both.2⟩
      | n + 2, hr, hi, _ => exact absurd (show n + 2 < 2 from hi) (by omega)
    · have k67 : x.kind = 6 ∨ x.kind = 7 := by omega
      have hl := (nx.sel k67).2
      have hxl : x.labels[i]? = some (x.labels[i]'(by omega)) := List.getElem?_eq_getElem _
      have hm := List.mem_of_getElem? hxl
      generalize x.labels[i]'(by omega) = s at hxl hm
      obtain ⟨p, q, hp, hq, Sp, Sq⟩ := pairs k67 s hm
      obtain ⟨i', j, r', t, p1, p2, p3, p4, rfl⟩ := labPair_out hp
      obtain ⟨j', i'', t', r'', q1, q2, q3, q4, rfl⟩ := labPair_out hq
      have hii := idx_nodup nx.nodup hxl
      rw [p1] at hii
      injection hii with hii
      subst hii
      rw [hr] at p3
      injection p3 with p3
      subst p3
      rw [p2] at q1
      injection q1 with q1
      subst q1
      rw [p1] at q2
      injection q2 with q2
      subst q2
      rw [p4] at q3
      injection q3 with q3
      subst q3
      rw [hr] at q4
      injection q4 with q4
      subst q4
      rw [show -d + t.shift - r.shift = -(d + r.shift - t.shift) by omega] at Sq
      exact ⟨j, t, by unfold kIdx; rw [if_neg (by omega), hxl]; exact p2, p4, Sp, Sq⟩

noncomputable def subB (N : List Nd) (a b : Rf) : Bool := @decide (SubP N (key3 false a b)) (Classical.propDecidable _)
theorem subB_iff {N : List Nd} {a b : Rf} : subB N a b = true ↔ SubP N (key3 false a b) := by unfold subB; exact @decide_eq_true_iff _ (Classical.propDecidable _)
theorem sub_run {N : List Nd} {B : Int} (hG : GOk N B) {a b : Rf} (ha : RefOk N a) (hb : RefOk N b) : RW 24 [.d (.agg [.sl 4 (N.map Nd.data)]), .d a.data, .d b.data] [] = some (.d (.bool (subB N a b)), []) := by
  have h1 := ha.sh
  have h2 := hb.sh
  obtain ⟨r, M, hr, hp1, hp2⟩ := su_run N B hG 100000000 a b [] (mu_small hG false) ha.lo ha.hi hb.lo hb.hi (by omega) (by omega)
  have e : subB N a b = r := by
    cases r with
    | true =>
      obtain ⟨k1, k2⟩ := hp1 rfl
      exact subB_iff.2 ⟨(· ∈ M), fun q hq => k2 q hq, k1⟩
    | false =>
      cases hb : subB N a b with
      | false => rfl
      | true => exact absurd (hp2 (subB_iff.1 hb)) (by decide)
  rw [e]
  rw [List.nil_append] at hr
  unfold suO at hr
  rw [Rf.data_eq, Rf.data_eq] at hr ⊢
  refine runW_fn rfl rfl ?_
  unfold runFn c24
  have hes : esOf [] = [] := rfl
  rw [hes] at hr
  simp only [go_sem, hr]
theorem subsame_run {N : List Nd} {B : Int} (hG : GOk N B) {a b : Rf} (ha : RefOk N a) (hb : RefOk N b) : RW 30 [.d (.agg [.sl 4 (N.map Nd.data)]), .d a.data, .d b.data] [] = some (.d (.bool (eqB N a b)), []) := by
  have h1 := sub_run hG ha hb
  have h2 := sub_run hG hb ha
  have e : eqB N a b = (subB N a b && subB N b a) := by
    rw [Bool.eq_iff_iff, Bool.and_eq_true, eqB_iff, subB_iff, subB_iff, key3_eq, key3_eq]
    constructor
    · intro h
      have := eqp_symm hG h
      rw [show -(a.shift - b.shift) = b.shift - a.shift by omega] at this
      exact ⟨sub_of_eqp hG h, sub_of_eqp hG this⟩
    · rintro ⟨h, g⟩
      rw [show b.shift - a.shift = -(a.shift - b.shift) by omega] at g
      exact eqp_of_sub hG h g
  rw [e]
  generalize subB N a b = u at h1 ⊢
  generalize subB N b a = v at h2 ⊢
  rw [Rf.data_eq, Rf.data_eq] at h1 h2 ⊢
  refine runW_fn rfl rfl ?_
  unfold runFn c30
  cases u <;> cases v <;> simp only [go_sem, h1, h2] <;> rfl
end Go.Proofs.YtijfioakpngdhaaDoor

namespace Go.Proofs.YtijfioakpngdhaaDoor
open Go.V
set_option maxRecDepth 100000
set_option linter.unusedSimpArgs false
set_option linter.unusedVariables false

theorem awake11_run : RW 23 [] [] = some (.d (.bool true), []) := runW_mk (k := 60) (by kernel_rfl)
def nS (k : Nat) : Rf := ⟨(k : Int), 0⟩
theorem rf2 (a b : T) (ha : Rgt a) (hb : Rgt b) : nextsL [a, b] 0 [] [] = [nS 0, nS (cnt a)] := by
  rw [nextsL, nextsL, nextsL, refE_topR ha, refE_topR hb]
  unfold nS
  congr 1
  congr 1
  congr 1; omega
theorem rf3 (a b c : T) (ha : Rgt a) (hb : Rgt b) (hc : Rgt c) : nextsL [a, b, c] 0 [] [] = [nS 0, nS (cnt a), nS (cnt a + cnt b)] := by
  rw [nextsL, nextsL, nextsL, nextsL, refE_topR ha, refE_topR hb, refE_topR hc]
  unfold nS
  congr 1
  congr 1
  · congr 1; omega
  · congr 1
    congr 1; omega
theorem subtypeOrders_run (a b c : T) (k : Int) (hwa : Wf a) (hwb : Wf b) (hwc : Wf c) (hk : -32768 ≤ k ∧ k < 32768) : RW 9 [.d a.data, .d b.data, .d c.data, .d (.int .i16 k)] [] = some (.d (.bool true), []) := by
  have hw := awake11_run
  have sa := small_run a 40 hwa (by omega) (by omega)
  have sb := small_run b 40 hwb (by omega) (by omega)
  have sc := small_run c 40 hwc (by omega) (by omega)
  have da := T.data_eq a
  have db := T.data_eq b
  have dc := T.data_eq c
  cases ha : smallB a 40 with
  | false =>
    rw [da] at sa ⊢
    rw [db, dc]
    refine runW_fn rfl rfl ?_
    unfold runFn c9
    simp only [go_sem, hw, sa, ha]
  | true =>
    cases hb : smallB b 40 with
    | false =>
      rw [da] at sa ⊢
      rw [db] at sb ⊢
      rw [dc]
      refine runW_fn rfl rfl ?_
      unfold runFn c9
      simp only [go_sem, hw, sa, ha, sb, hb]
    | true =>
      cases hc : smallB c 40 with
      | false =>
        rw [da] at sa ⊢
        rw [db] at sb ⊢
        rw [dc] at sc ⊢
        refine runW_fn rfl rfl ?_
        unfold runFn c9
        simp only [go_sem, hw, sa, ha, sb, hb, sc, hc]
      | true =>
        have ra := small_rgt hwa (by omega) ha
        have rb := small_rgt hwb (by omega) hb
        have rc := small_rgt hwc (by omega) hc
        have oa := small_out hwa (by omega) ha
        have ob := small_out hwb (by omega) hb
        have oc := small_out hwc (by omega) hc
        have hall : ∀ t ∈ [a, b, c], Rgt t := fun t h => by
          simp only [List.mem_cons, List.not_mem_nil, or_false] at h
          rcases h with h | h | h <;> subst h <;> assumption
        have hsz : T.sizeL [a, b, c] ≤ 1000 := by rw [T.sizeL, T.sizeL, T.sizeL, T.sizeL]; omega
        have hfine := fineR hall (by simp; omega)
        have hg := graph_run [a, b, c] hfine
        have hG := graph_okR (l := [a, b, c]) (by simp) hall hsz
        have hlen := nodesL_len [a, b, c] 0 [] [] hfine.shp
        have hcl : cntL [a, b, c] = cnt a + cnt b + cnt c := by rw [cntL, cntL, cntL, cntL]; omega
        rw [hcl] at hlen
        rw [rf3 a b c ra rb rc] at hg
        generalize nodesL [a, b, c] 0 [] [] = N at *
        have ok : ∀ (i : Nat) (j : Int), i < N.length → -100000 ≤ j → j ≤ 100000 → RefOk N ⟨(i : Int), j⟩ := fun i j hi j1 j2 => ⟨by dsimp only; omega, by dsimp only; omega, by dsimp only; omega⟩
        have k0 : (0 : Nat) < N.length := by omega
        have k1 : cnt a < N.length := by omega
        have k2 : cnt a + cnt b < N.length := by omega
        have q1 := sub_run hG (ok 0 0 k0 (by omega) (by omega)) (ok (cnt a) 0 k1 (by omega) (by omega))
        have q2 := sub_run hG (ok (cnt a) 0 k1 (by omega) (by omega)) (ok (cnt a + cnt b) 0 k2 (by omega) (by omega))
        have q3 := sub_run hG (ok 0 0 k0 (by omega) (by omega)) (ok (cnt a + cnt b) 0 k2 (by omega) (by omega))
        have q4 := sub_run hG (ok 0 0 k0 (by omega) (by omega)) (ok 0 0 k0 (by omega) (by omega))
        have q5 := sub_run hG (ok 0 k k0 (by omega) (by omega)) (ok (cnt a) k k1 (by omega) (by omega))
        have q6 := subsame_run hG (ok 0 0 k0 (by omega) (by omega)) (ok (cnt a) 0 k1 (by omega) (by omega))
        have q7 := equal_run hG (ok 0 0 k0 (by omega) (by omega)) (ok (cnt a) 0 k1 (by omega) (by omega))
        have key : ∀ (i j : Nat), key3 false ⟨(i : Int), 0⟩ ⟨(j : Int), 0⟩ = ((i : Int), (j : Int), 0) := fun i j => by rw [key3_eq]; rfl
        have e4 : subB N ⟨((0 : Nat) : Int), 0⟩ ⟨((0 : Nat) : Int), 0⟩ = true := subB_iff.2 (by rw [key]; exact subp_refl hG (by omega) (by omega))
        have e5 : subB N ⟨((0 : Nat) : Int), k⟩ ⟨(cnt a : Int), k⟩ = subB N ⟨((0 : Nat) : Int), 0⟩ ⟨(cnt a : Int), 0⟩ := by
          rw [Bool.eq_iff_iff, subB_iff, subB_iff, key, key3_eq]
          dsimp only
          rw [Int.sub_self]
        have e3 : subB N ⟨((0 : Nat) : Int), 0⟩ ⟨(cnt a : Int), 0⟩ = true → subB N ⟨(cnt a : Int), 0⟩ ⟨((cnt a + cnt b : Nat) : Int), 0⟩ = true → subB N ⟨((0 : Nat) : Int), 0⟩ ⟨((cnt a + cnt b : Nat) : Int), 0⟩ = true := by
          intro h g
          have h' := subB_iff.1 h
          have g' := subB_iff.1 g
          rw [key] at h' g'
          have := subp_trans hG h' g'
          exact subB_iff.2 (by rw [key]; exact this)
        rw [e4] at q4
        rw [e5] at q5
        generalize subB N ⟨((0 : Nat) : Int), 0⟩ ⟨(cnt a : Int), 0⟩ = x at q1 q5 e3
        generalize subB N ⟨(cnt a : Int), 0⟩ ⟨((cnt a + cnt b : Nat) : Int), 0⟩ = y at q2 e3
        generalize subB N ⟨((0 : Nat) : Int), 0⟩ ⟨((cnt a + cnt b : Nat) : Int), 0⟩ = z at q3 e3
        generalize eqB N ⟨((0 : Nat) : Int), 0⟩ ⟨(cnt a : Int), 0⟩ = w at q6 q7
        have n0 : (nS 0).data = .agg [.int .i64 0, .int .i64 0] := rfl
        have n1 : (nS (cnt a)).data = .agg [.int .i64 (cnt a : Int), .int .i64 0] := rfl
        have n2 : (nS (cnt a + cnt b)).data = .agg [.int .i64 ((cnt a + cnt b : Nat) : Int), .int .i64 0] := rfl
        rw [Rf.data_eq, Rf.data_eq] at q1 q2 q3 q5 q6 q7
        rw [Rf.data_eq] at q4
        dsimp only at q1 q2 q3 q4 q5 q6 q7
        have w1 : IntKind.wrap .i64 k = k := wrap64 (by omega) (by omega)
        have w2 : IntKind.wrap .i64 (0 + k) = k := by rw [Int.zero_add]; exact w1
        rw [List.map_cons, List.map_cons, List.map_cons, List.map_nil, List.map_cons, List.map_cons, List.map_cons, List.map_nil, n0, n1, n2, da, db, dc] at hg
        rw [da] at sa ⊢
        rw [db] at sb ⊢
        rw [dc] at sc ⊢
        generalize cnt a + cnt b = m2 at *
        generalize cnt a = m1 at *
        have c0 : (((0 : Nat) : Int)) = 0 := rfl
        rw [c0] at q1 q3 q4 q5 q6 q7
        refine runW_fn rfl rfl ?_
        unfold runFn c9
        cases x with
        | true =>
          cases y with
          | true =>
            rw [e3 rfl rfl] at q3
            cases w <;> simp only [go_sem, hw, sa, ha, sb, hb, sc, hc, hg, q1, q2, q3, q4, q5, q6, q7, w1, w2]
          | false =>
            cases w <;> simp only [go_sem, hw, sa, ha, sb, hb, sc, hc, hg, q1, q2, q3, q4, q5, q6, q7, w1, w2]
        | false =>
          cases y <;> cases w <;> simp only [go_sem, hw, sa, ha, sb, hb, sc, hc, hg, q1, q2, q3, q4, q5, q6, q7, w1, w2]
end Go.Proofs.YtijfioakpngdhaaDoor
