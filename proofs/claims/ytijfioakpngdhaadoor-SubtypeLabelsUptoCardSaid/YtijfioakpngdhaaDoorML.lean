/- Equality of closed types, and of the references that stand for them. -/
import Derived.Test.YtijfioakpngdhaaDoorMI
import Derived.Test.YtijfioakpngdhaaDoorMK
namespace Go.Proofs.YtijfioakpngdhaaDoor
open Go.V
set_option maxRecDepth 100000
set_option linter.unusedSimpArgs false
set_option linter.unusedVariables false

/-- the place of a type's kid in another type -/
def kIdxT (x y : T) (i : Nat) : Option Nat := if x.labels.length = 0 then some i else match x.labels[i]? with | some s => idx? y.labels s | none => none
/-- two unfolded types fit, and the pairs of kids behind them are in a set -/
def LocT (a b : T) (S : T → T → Prop) : Prop := Unf a ∧ Unf b ∧ (unfoldE a).kind = (unfoldE b).kind ∧ (unfoldE a).labels.length = (unfoldE b).labels.length ∧ (actB (unfoldE a).kind = true → (unfoldE a).prio = (unfoldE b).prio) ∧
  ∀ (i : Nat) (s : T), (unfoldE a).kids[i]? = some s → ∃ k s', kIdxT (unfoldE a) (unfoldE b) i = some k ∧ (unfoldE b).kids[k]? = some s' ∧ S s s'
theorem LocT.mono {a b : T} {S S' : T → T → Prop} (h : LocT a b S) (hs : ∀ x y, S x y → S' x y) : LocT a b S' := by
  obtain ⟨h1, h2, h3, h4, h5, h6⟩ := h
  refine ⟨h1, h2, h3, h4, h5, fun i s hi => ?_⟩
  obtain ⟨k, s', k1, k2, k3⟩ := h6 i s hi
  exact ⟨k, s', k1, k2, hs _ _ k3⟩
def EqT (a b : T) : Prop := ∃ R : T → T → Prop, (∀ x y, R x y → LocT x y R) ∧ R a b
theorem EqT.loc {a b : T} (h : EqT a b) : LocT a b EqT := by
  obtain ⟨R, h1, h2⟩ := h
  exact (h1 a b h2).mono fun x y hxy => ⟨R, h1, hxy⟩

theorem GP.raise {ty : Nat → T} {r : Rf} {c : T} (h : GP ty r c) (k : Int) : GP ty ⟨r.node, r.shift + k⟩ (raiseE k c) := by
  have hr := h.unf.raise k
  refine ⟨h.cl.raise k, raise_wf k c h.wf, hr.1, ?_⟩
  rw [hr.2, h.eq, raise_raise]
/-- what is known of a reference's type: its node's fields, raised -/
theorem gp_fields {N : List Nd} {ty : Nat → T} (hN : ∀ (i : Nat) (x : Nd), N[i]? = some x → NT ty x (ty i)) {r : Rf} {c : T} {x : Nd} (h : GP ty r c) (hx : N[r.node.toNat]? = some x) :
    (unfoldE c).kind = x.kind ∧ (unfoldE c).labels = x.labels ∧ (unfoldE c).prio = (if 4 ≤ x.kind ∧ x.kind ≤ 7 then IntKind.wrap .i64 (x.prio + r.shift) else x.prio) ∧ (unfoldE c).kids.length = x.next.length ∧
      ∀ (i : Nat) (s : T), (unfoldE c).kids[i]? = some s → ∃ q, x.next[i]? = some q ∧ GP ty ⟨q.node, q.shift + r.shift⟩ s := by
  have nt := hN _ x hx
  rw [h.eq, raise_kind, raise_labels, raise_prio, raise_kids, List.length_map, nt.kind, nt.labels, nt.prio, nt.len]
  refine ⟨rfl, rfl, rfl, rfl, fun i s hs => ?_⟩
  rw [List.getElem?_map] at hs
  cases hk : (ty r.node.toNat).kids[i]? with
  | none => rw [hk] at hs; cases hs
  | some u =>
    rw [hk] at hs
    injection hs with hs
    subst hs
    have hi : i < x.next.length := by rw [← nt.len]; exact (List.getElem?_eq_some_iff.1 hk).1
    have hq : x.next[i]? = some x.next[i] := List.getElem?_eq_getElem hi
    exact ⟨_, hq, (nt.kids i _ u hq hk).raise _⟩
theorem actB_iff {k : Int} : actB k = true ↔ 4 ≤ k ∧ k ≤ 7 := by unfold actB; simp
theorem eqt_of_eqp {N : List Nd} {B : Int} (hG : GOk N B) {ty : Nat → T} (hN : ∀ (i : Nat) (x : Nd), N[i]? = some x → NT ty x (ty i)) {r q : Rf} {a b : T} (ha : GP ty r a) (hb : GP ty q b) (h : EqP N false (r.node, q.node, r.shift - q.shift)) : EqT a b := by
  refine ⟨fun a b => ∃ r q, GP ty r a ∧ GP ty q b ∧ EqP N false (r.node, q.node, r.shift - q.shift), fun a b hab => ?_, r, q, ha, hb, h⟩
  obtain ⟨r, q, ha, hb, h⟩ := hab
  obtain ⟨x, y, h1, h2, h3, h4, h5, h6, h7, h8⟩ := h.loc
  dsimp only at h1 h2 h3 h4 h7 h8
  obtain ⟨a1, a2, a3, a4, a5⟩ := gp_fields hN ha h3
  obtain ⟨b1, b2, b3, b4, b5⟩ := gp_fields hN hb h4
  refine ⟨ha.unf, hb.unf, by rw [a1, b1, h5], by rw [a2, b2, h6], fun hact => ?_, fun i s hs => ?_⟩
  · rw [a1] at hact
    have e := h7 rfl hact
    have hk := actB_iff.1 hact
    rw [a3, b3, if_pos hk, if_pos (by rw [← h5]; exact hk)]
    rw [show x.prio + r.shift = y.prio + q.shift by omega]
  · obtain ⟨p, p1, p2⟩ := a5 i s hs
    obtain ⟨k, p', k1, k2, k3⟩ := h8 i p p1
    have hkl : k < (unfoldE b).kids.length := by rw [b4]; exact (List.getElem?_eq_some_iff.1 k2).1
    have hs' : (unfoldE b).kids[k]? = some (unfoldE b).kids[k] := List.getElem?_eq_getElem hkl
    obtain ⟨p'', m1, m2⟩ := b5 k _ hs'
    rw [k2] at m1
    injection m1 with m1
    subst m1
    refine ⟨k, _, ?_, hs', _, _, p2, m2, ?_⟩
    · unfold kIdxT
      rw [a2, b2]
      exact k1
    · unfold ndf at k3
      rw [if_neg (by decide)] at k3
      dsimp only
      rw [show p.shift + r.shift - (p'.shift + q.shift) = r.shift - q.shift + p.shift - p'.shift by omega]
      exact k3
theorem wrap_close {a b : Int} (h : IntKind.wrap .i64 a = IntKind.wrap .i64 b) (hd : -9000000000000000000 ≤ a - b ∧ a - b ≤ 9000000000000000000) : a = b := by
  obtain ⟨p, hp⟩ := wrap_spec a
  obtain ⟨q, hq⟩ := wrap_spec b
  omega
theorem eqp_of_eqt {N : List Nd} {B : Int} (hG : GOk N B) {ty : Nat → T} (hN : ∀ (i : Nat) (x : Nd), N[i]? = some x → NT ty x (ty i)) {r q : Rf} {a b : T} (ha : GP ty r a) (hb : GP ty q b) (hr : 0 ≤ r.node ∧ r.node < N.length) (hq : 0 ≤ q.node ∧ q.node < N.length)
    (hd : -1000000000000 ≤ r.shift - q.shift ∧ r.shift - q.shift ≤ 1000000000000) (h : EqT a b) : EqP N false (r.node, q.node, r.shift - q.shift) := by
  have hsm := hG.small
  refine ⟨fun p => ∃ r q a b, p = (r.node, q.node, r.shift - q.shift) ∧ GP ty r a ∧ GP ty q b ∧ (0 ≤ r.node ∧ r.node < (N.length : Int)) ∧ (0 ≤ q.node ∧ q.node < (N.length : Int)) ∧ (-1000000000000 ≤ r.shift - q.shift ∧ r.shift - q.shift ≤ 1000000000000) ∧ EqT a b, fun p hp => ?_, r, q, a, b, rfl, ha, hb, hr, hq, hd, h⟩
  obtain ⟨r, q, a, b, rfl, ha, hb, hr, hq, hd, h⟩ := hp
  obtain ⟨h1, h2, h3, h4, h5, h6⟩ := h.loc
  obtain ⟨x, hx⟩ := get_of hr.1 hr.2
  obtain ⟨y, hy⟩ := get_of hq.1 hq.2
  have nx := hG.ns x (List.mem_of_getElem? hx)
  have ny := hG.ns y (List.mem_of_getElem? hy)
  obtain ⟨a1, a2, a3, a4, a5⟩ := gp_fields hN ha hx
  obtain ⟨b1, b2, b3, b4, b5⟩ := gp_fields hN hb hy
  rw [a1, b1] at h3
  rw [a2, b2] at h4
  rw [a1] at h5
  have hpe : actB x.kind = true → x.prio + (r.shift - q.shift) = y.prio := fun hact => by
    have e := h5 hact
    have hk := actB_iff.1 hact
    rw [a3, b3, if_pos hk, if_pos (by rw [← h3]; exact hk)] at e
    have := nx.prio
    have := ny.prio
    have := wrap_close e (by omega)
    omega
  refine ⟨x, y, hr.1, hq.1, hx, hy, h3, h4, fun _ => hpe, fun i p hp => ?_⟩
  have hil := (List.getElem?_eq_some_iff.1 hp).1
  have hs : (unfoldE a).kids[i]? = some ((unfoldE a).kids[i]'(by rw [a4]; exact hil)) := List.getElem?_eq_getElem _
  obtain ⟨k, s', k1, k2, k3⟩ := h6 i _ hs
  obtain ⟨p0, m1, m2⟩ := a5 i _ hs
  rw [hp] at m1
  injection m1 with m1
  subst m1
  obtain ⟨p', n1, n2⟩ := b5 k s' k2
  have hact : actB x.kind = true := by
    have := nx.low
    by_cases h : x.kind ≤ 3
    · rw [(nx.leaf h).1] at hil; exact absurd hil (by simp)
    · exact actB_iff.2 (by omega)
  have e := hpe hact
  have := nx.prio
  have := ny.prio
  have q1 := hG.refs x (List.mem_of_getElem? hx) p (List.mem_of_getElem? hp)
  have q2 := hG.refs y (List.mem_of_getElem? hy) p' (List.mem_of_getElem? n1)
  have s1 := hG.shifts x (List.mem_of_getElem? hx) p (List.mem_of_getElem? hp)
  have s2 := hG.shifts y (List.mem_of_getElem? hy) p' (List.mem_of_getElem? n1)
  refine ⟨k, p', ?_, n1, ⟨p.node, p.shift + r.shift⟩, ⟨p'.node, p'.shift + q.shift⟩, _, s', ?_, m2, n2, q1, q2, ?_, k3⟩
  · unfold kIdxT at k1
    rw [a2, b2] at k1
    exact k1
  · unfold ndf
    rw [if_neg (by decide)]
    dsimp only
    rw [show p.shift + r.shift - (p'.shift + q.shift) = r.shift - q.shift + p.shift - p'.shift by omega]
  · dsimp only; omega
/-- types that unfold to the same are equal -/
theorem eqt_same {N : List Nd} {B : Int} (hG : GOk N B) {ty : Nat → T} (hN : ∀ (i : Nat) (x : Nd), N[i]? = some x → NT ty x (ty i)) {r : Rf} {a b : T} (ha : GP ty r a) (hr : 0 ≤ r.node ∧ r.node < N.length) (hb : Unf b) (h : unfoldE b = unfoldE a) : EqT a b := by
  refine ⟨fun a b => ∃ r, GP ty r a ∧ (0 ≤ r.node ∧ r.node < (N.length : Int)) ∧ Unf b ∧ unfoldE b = unfoldE a, fun a b hab => ?_, r, ha, hr, hb, h⟩
  obtain ⟨r, ha, hr, hb, h⟩ := hab
  obtain ⟨x, hx⟩ := get_of hr.1 hr.2
  have nx := hG.ns x (List.mem_of_getElem? hx)
  obtain ⟨a1, a2, a3, a4, a5⟩ := gp_fields hN ha hx
  refine ⟨ha.unf, hb, by rw [h], by rw [h], fun _ => by rw [h], fun i s hs => ?_⟩
  obtain ⟨q, q1, q2⟩ := a5 i s hs
  have q3 := hG.refs x (List.mem_of_getElem? hx) q (List.mem_of_getElem? q1)
  refine ⟨i, s, ?_, by rw [h]; exact hs, _, q2, q3, q2.unf, rfl⟩
  have := kIdx_self nx (List.getElem?_eq_some_iff.1 q1).1
  unfold kIdxT
  unfold kIdx at this
  rw [h, a2]
  exact this
end Go.Proofs.YtijfioakpngdhaaDoor

namespace Go.Proofs.YtijfioakpngdhaaDoor
open Go.V
set_option maxRecDepth 100000
set_option linter.unusedSimpArgs false
set_option linter.unusedVariables false

theorem Needs.mono' {x y : Nd} {d : Int} {S S' : K3 → Prop} (h : Needs x y d S) (hs : ∀ q, S q → S' q) : Needs x y d S' := by
  obtain ⟨h4, h5, h6, h7⟩ := h
  exact ⟨fun k r0 r1 q0 q1 a b => ⟨hs _ (h4 k r0 r1 q0 q1 a b).1, hs _ (h4 k r0 r1 q0 q1 a b).2⟩, fun k r0 r1 q0 q1 a b => ⟨hs _ (h5 k r0 r1 q0 q1 a b).1, hs _ (h5 k r0 r1 q0 q1 a b).2⟩,
    fun k s m => by obtain ⟨p, p1, p2⟩ := h6 k s m; exact ⟨p, p1, hs _ p2⟩, fun k s m => by obtain ⟨p, p1, p2⟩ := h7 k s m; exact ⟨p, p1, hs _ p2⟩⟩
theorem subp_node {N : List Nd} {B : Int} (hG : GOk N B) {p : K3} {x y : Nd} (h : SNode N p x y (SubP N)) : SubP N p := by
  refine subP_of hG (fun q => SubP N q ∨ q = p) (fun q hq => ?_) (.inr rfl)
  rcases hq with hq | rfl
  · obtain ⟨x, y, s⟩ := hq.node hG
    exact ⟨x, y, s.lo, s.hx, s.hy, s.kind, s.prio, s.needs.mono' fun q h => .inl h⟩
  · exact ⟨x, y, h.lo, h.hx, h.hy, h.kind, h.prio, h.needs.mono' fun q h => .inl h⟩
/-- a type with a further label -/
def moreT (t rest : T) (label : List UInt8) : T := .mk t.kind t.prio t.name t.shift (t.labels ++ [label]) (t.kids ++ [rest])
theorem more_plain {N : List Nd} {B : Int} (hG : GOk N B) {ty : Nat → T} {t rest : T} {label : List UInt8} {c : Nat} (hT : GT N ty [t, moreT t rest label] [nS 0, nS c]) (hk : t.kind = 6 ∨ t.kind = 7) (h0 : 0 < N.length) (h1 : c < N.length) :
    (t.kind = 6 → SubP N ((c : Int), 0, 0) ∧ ¬ SubP N (0, (c : Int), 0)) ∧ (t.kind = 7 → SubP N (0, (c : Int), 0) ∧ ¬ SubP N ((c : Int), 0, 0)) := by
  have gp0 := hT.ref 0 (nS 0) t rfl rfl
  have gp1 := hT.ref 1 (nS c) (moreT t rest label) rfl rfl
  have st0 := (Unf.stay (t := t) (by omega)).2
  have st1 := (Unf.stay (t := moreT t rest label) (show t.kind ≠ 8 by omega)).2
  obtain ⟨x, hx⟩ := get_of (N := N) (a := 0) (by omega) (by omega)
  obtain ⟨y, hy⟩ := get_of (N := N) (a := (c : Int)) (by omega) (by omega)
  have hxm := List.mem_of_getElem? hx
  have hym := List.mem_of_getElem? hy
  have nx := hG.ns x hxm
  have ny := hG.ns y hym
  have hsm := hG.small
  obtain ⟨a1, a2, a3, a4, a5⟩ := gp_fields hT.node gp0 (x := x) hx
  obtain ⟨b1, b2, b3, b4, b5⟩ := gp_fields hT.node gp1 (x := y) hy
  rw [st0] at a1 a2 a3 a4 a5
  rw [st1] at b1 b2 b3 b4 b5
  have m1 : (moreT t rest label).kind = t.kind := rfl
  have m2 : (moreT t rest label).labels = t.labels ++ [label] := rfl
  have m3 : (moreT t rest label).prio = t.prio := rfl
  have m4 : (moreT t rest label).kids = t.kids ++ [rest] := rfl
  have p1 := nx.prio
  have p2 := ny.prio
  have hkx : x.kind = y.kind := by rw [← a1, ← b1, m1]
  have hpe : x.prio = y.prio := by
    rw [m3] at b3
    rw [if_pos (by omega), show x.prio + (nS 0).shift = x.prio from Int.add_zero _, wrap64 (by omega) (by omega)] at a3
    rw [if_pos (by omega), show y.prio + (nS c).shift = y.prio from Int.add_zero _, wrap64 (by omega) (by omega)] at b3
    omega
  have hxl : x.next.length = x.labels.length := (nx.sel (by omega)).2
  have hnot : label ∉ x.labels := by
    intro hm
    have := ny.nodup
    rw [← b2, m2, List.nodup_append] at this
    rw [← a2] at hm
    exact this.2.2 label hm label (List.mem_singleton.2 rfl) rfl
  have pair : ∀ s ∈ x.labels, ∃ i r q, idx? x.labels s = some i ∧ idx? y.labels s = some i ∧ x.next[i]? = some r ∧ y.next[i]? = some q ∧ EqP N false (r.node, q.node, r.shift - q.shift) := by
    intro s hs
    obtain ⟨i, hi⟩ := List.mem_iff_getElem?.1 hs
    have hil := (List.getElem?_eq_some_iff.1 hi).1
    have hku : t.kids[i]? = some (t.kids[i]'(by omega)) := List.getElem?_eq_getElem _
    generalize t.kids[i]'(by omega) = u at hku
    obtain ⟨r, r1, r2⟩ := a5 i u hku
    obtain ⟨q, q1, q2⟩ := b5 i u (by rw [m4, List.getElem?_append_left (by omega)]; exact hku)
    have rr := hG.refs x hxm r (List.mem_of_getElem? r1)
    have rq := hG.refs y hym q (List.mem_of_getElem? q1)
    have sr := hG.shifts x hxm r (List.mem_of_getElem? r1)
    have sq := hG.shifts y hym q (List.mem_of_getElem? q1)
    have e1 : r.shift + (nS 0).shift = r.shift := Int.add_zero _
    have e2 : q.shift + (nS c).shift = q.shift := Int.add_zero _
    rw [e1] at r2
    rw [e2] at q2
    have := eqp_of_eqt hG hT.node r2 q2 rr rq (by dsimp only; omega) (eqt_same hG hT.node r2 rr q2.unf rfl)
    refine ⟨i, r, q, idx_nodup nx.nodup hi, idx_nodup ny.nodup ?_, r1, q1, this⟩
    rw [← b2, m2, List.getElem?_append_left (by rw [a2]; exact hil), a2]
    exact hi
  have yx : ∀ s ∈ y.labels, s = label ∨ s ∈ x.labels := fun s hs => by
    rw [← b2, m2] at hs
    rcases List.mem_append.1 hs with h | h
    · exact .inr (a2 ▸ h)
    · exact .inl (List.mem_singleton.1 h)
  have ly : label ∈ y.labels := by rw [← b2, m2]; exact List.mem_append.2 (.inr (List.mem_singleton.2 rfl))
  refine ⟨fun k => ⟨subp_node hG (x := y) (y := x) ⟨⟨by dsimp only; omega, Int.le_refl _⟩, hy, hx, hkx.symm, fun _ => by dsimp only; omega, fun h => by omega, fun h => by omega, fun _ s hs => ?_, fun h => by omega⟩, fun hS => ?_⟩,
    fun k => ⟨subp_node hG (x := x) (y := y) ⟨⟨Int.le_refl _, by dsimp only; omega⟩, hx, hy, hkx, fun _ => by dsimp only; omega, fun h => by omega, fun h => by omega, fun h => by omega, fun _ s hs => ?_⟩, fun hS => ?_⟩⟩
  · obtain ⟨i, r, q, h1, h2, h3, h4, h5⟩ := pair s hs
    refine ⟨_, labPair_in h2 h1 h4 h3, ?_⟩
    have := sub_of_eqp hG (eqp_symm hG h5)
    rw [show -(r.shift - q.shift) = 0 + q.shift - r.shift by omega] at this
    exact this
  · obtain ⟨x', y', s⟩ := hS.node hG
    have e1 := s.hx.symm.trans hx
    injection e1 with e1
    have e2 := s.hy.symm.trans hy
    injection e2 with e2
    have n := s.needs
    dsimp only at n
    rw [e1, e2] at n
    obtain ⟨p, hp, _⟩ := n.2.2.1 (by omega) label ly
    obtain ⟨i, j, _, _, g1, _⟩ := labPair_out hp
    exact hnot (mem_idx g1)
  · obtain ⟨i, r, q, h1, h2, h3, h4, h5⟩ := pair s hs
    refine ⟨_, labPair_in h1 h2 h3 h4, ?_⟩
    have := sub_of_eqp hG h5
    rw [show r.shift - q.shift = 0 + r.shift - q.shift by omega] at this
    exact this
  · obtain ⟨x', y', s⟩ := hS.node hG
    have e1 := s.hx.symm.trans hy
    injection e1 with e1
    have e2 := s.hy.symm.trans hx
    injection e2 with e2
    have n := s.needs
    dsimp only at n
    rw [e1, e2] at n
    obtain ⟨p, hp, _⟩ := n.2.2.2 (by omega) label ly
    obtain ⟨i, j, _, _, _, g1, _⟩ := labPair_out hp
    exact hnot (mem_idx g1)
theorem right0 {t : T} (hw : Wf t) (hs : t.size < 1000000) (h : rightV t = 0) : Rgt t := by
  refine ⟨hw, hs, ?_⟩
  unfold rightV at h
  by_cases hb : 100 < dep t ∨ 10000 < t.size
  · rw [if_pos hb] at h; cases h
  · rw [if_neg hb] at h; exact h
theorem sizeL_snoc (r : T) : ∀ l : List T, T.sizeL (l ++ [r]) = T.sizeL l + r.size
  | [] => by rw [List.nil_append]; simp only [T.sizeL]; omega
  | x :: l => by rw [List.cons_append, T.sizeL, T.sizeL, sizeL_snoc r l]; omega
theorem more_size (t rest : T) (label : List UInt8) : (moreT t rest label).size = t.size + rest.size := by
  cases t with
  | mk k p n s la ki =>
    show (T.mk k p n s (la ++ [label]) (ki ++ [rest])).size = _
    rw [T.size, T.size, sizeL_snoc]
    omega
theorem kids_le (t : T) : t.kids.length ≤ t.size := by
  cases t with
  | mk k p n s la ki => have := len_sizeL ki; rw [T.size]; show ki.length ≤ _; omega
theorem shape_sel {t : T} (h : shapeB t = true) (h0 : t.labels.length ≠ 0) : (t.kind = 6 ∨ t.kind = 7) ∧ t.kids.length = t.labels.length := by
  have hk := shape_kinds h
  unfold shapeB at h
  have : t.kind = 1 ∨ t.kind = 2 ∨ t.kind = 3 ∨ t.kind = 4 ∨ t.kind = 5 ∨ t.kind = 6 ∨ t.kind = 7 ∨ t.kind = 8 ∨ t.kind = 9 := by omega
  rcases this with e | e | e | e | e | e | e | e | e <;> (simp [e] at h)
  · rw [h.2.2.2.1] at h0; exact absurd rfl h0
  · rw [h.2.2.2.1] at h0; exact absurd rfl h0
  · rw [h.2.2.2.1] at h0; exact absurd rfl h0
  · rw [h.2.2.2.1] at h0; exact absurd rfl h0
  · rw [h.2.2.2.1] at h0; exact absurd rfl h0
  · exact ⟨.inl e, by omega⟩
  · exact ⟨.inr e, by omega⟩
  · rw [h.2.2.2.1] at h0; exact absurd rfl h0
  · rw [h.2.2.2.1] at h0; exact absurd rfl h0
theorem subtypeLabels_run (t rest : T) (label : List UInt8) (hwt : Wf t) (hwr : Wf rest) (hll : label.length < 1000000000) : RW 8 [.d t.data, .d rest.data, .d (.str label)] [] = some (.d (.bool true), []) := by
  have hw := awake11_run
  have sa := small_run t 40 hwt (by omega) (by omega)
  have sb := small_run rest 40 hwr (by omega) (by omega)
  have eb := session_run rest
  have da := T.data_eq t
  have db := T.data_eq rest
  rw [da] at sa
  rw [db] at sb eb
  rw [da, db]
  cases ha : smallB t 40 with
  | false =>
    refine runW_fn rfl rfl ?_
    unfold runFn c8
    simp only [go_sem, hw, sa, ha]
  | true =>
  cases hb : smallB rest 40 with
  | false =>
    refine runW_fn rfl rfl ?_
    unfold runFn c8
    simp only [go_sem, hw, sa, ha, sb, hb]
  | true =>
  cases heb : (!decide (rest.kind = 1) && !decide (rest.kind = 2)) with
  | false =>
    rw [heb] at eb
    refine runW_fn rfl rfl ?_
    unfold runFn c8
    simp only [go_sem, hw, sa, ha, sb, hb, eb]
  | true =>
  rw [heb] at eb
  by_cases hl0 : t.labels.length = 0
  · have z1 : decide ((t.labels.length : Int) = 0) = true := decide_eq_true (by omega)
    have z2 : decide (t.labels.length = 0) = true := decide_eq_true hl0
    refine runW_fn rfl rfl ?_
    unfold runFn c8
    simp only [go_sem, hw, sa, ha, sb, hb, eb, z1, z2]
  have z1 : decide ((t.labels.length : Int) = 0) = false := decide_eq_false (by omega)
  have z2 : decide (t.labels.length = 0) = false := decide_eq_false hl0
  by_cases hl1 : 100 < label.length
  · have z3 : decide ((100 : Int) < (label.length : Int)) = true := decide_eq_true (by omega)
    refine runW_fn rfl rfl ?_
    unfold runFn c8
    simp only [go_sem, hw, sa, ha, sb, hb, eb, z1, z2, z3]
  have z3 : decide ((100 : Int) < (label.length : Int)) = false := decide_eq_false (by omega)
  have hra := raise_run t 0 hwt
  rw [raise_zero t hwt] at hra
  unfold tyV at hra
  rw [da] at hra
  have oa := small_out hwt (by omega) ha
  have ob := small_out hwr (by omega) hb
  have hlt := hwt.labLen
  have hkt := hwt.len
  have hwm : Wf (moreT t rest label) := by
    refine Wf.mk' hwt.nameLen ?_ ?_ ?_ hwt.kindR hwt.prioR hwt.shiftR ?_
    · show (t.labels ++ [label]).length < _
      have := (shape_sel oa.2.1.sh hl0).2
      have := kids_le t
      rw [List.length_append, List.length_singleton]; omega
    · intro l hl
      rcases List.mem_append.1 (show l ∈ t.labels ++ [label] from hl) with h | h
      · exact hwt.labLens l h
      · rw [List.mem_singleton.1 h]; exact hll
    · show (t.kids ++ [rest]).length < _
      have := kids_le t
      rw [List.length_append, List.length_singleton]; omega
    · intro s hs
      rcases List.mem_append.1 (show s ∈ t.kids ++ [rest] from hs) with h | h
      · exact hwt.kid h
      · rw [List.mem_singleton.1 h]; exact hwr
  have hsz' := more_size t rest label
  have hri := right_run (moreT t rest label) hwm (by omega)
  have dm : (moreT t rest label).data = .agg [.int .i64 t.kind, .int .i64 t.prio, .str t.name, .int .i64 t.shift, .sl 1 (t.labels.map .str ++ [.str label]), .sl 6 (t.kids.map T.data ++ [rest.data])] := by
    rw [T.data_eq]
    show V.Data.agg [.int .i64 t.kind, .int .i64 t.prio, .str t.name, .int .i64 t.shift, .sl 1 ((t.labels ++ [label]).map .str), .sl 6 ((t.kids ++ [rest]).map T.data)] = _
    rw [List.map_append, List.map_append]; rfl
  rw [db] at dm
  rw [dm] at hri
  have hb1 : decide ((t.labels.length + 1) * 16 ≤ 140737488355328) = true := decide_eq_true (by omega)
  have hb2 : decide ((t.kids.length + 1) * 88 ≤ 140737488355328) = true := decide_eq_true (by omega)
  by_cases hr0 : rightV (moreT t rest label) = 0
  case neg =>
    have z4 := decide_eq_false hr0
    refine runW_fn rfl rfl ?_
    unfold runFn c8
    simp only [go_sem, hw, sa, ha, sb, hb, eb, z1, z2, z3, hra, hb1, hb2, hri, z4]
  have z4 := decide_eq_true hr0
  have ra := small_rgt hwt (by omega) ha
  have rb := right0 hwm (by omega) hr0
  have hkind := (shape_sel oa.2.1.sh hl0).1
  have hall : ∀ s ∈ [t, moreT t rest label], Rgt s := fun s h => by
    simp only [List.mem_cons, List.not_mem_nil, or_false] at h
    rcases h with h | h <;> subst h <;> assumption
  have hsz : T.sizeL [t, moreT t rest label] ≤ 1000 := by rw [T.sizeL, T.sizeL, T.sizeL]; omega
  have hfine := fineR hall (by simp; omega)
  have hg := graph_run [t, moreT t rest label] hfine
  have hG := graph_okR (l := [t, moreT t rest label]) (by simp) hall hsz
  obtain ⟨ty, hT⟩ := graph_gtR _ hall
  have hlen := nodesL_len [t, moreT t rest label] 0 [] [] hfine.shp
  have hcl : cntL [t, moreT t rest label] = cnt t + cnt (moreT t rest label) := by rw [cntL, cntL, cntL]; omega
  have cm := rb.cnt
  have cpos := ra.cnt
  rw [hcl] at hlen
  rw [rf2 t _ ra rb] at hg hT
  generalize nodesL [t, moreT t rest label] 0 [] [] = N at *
  have pl := more_plain hG hT hkind (by omega) (by omega)
  have ok : ∀ (i : Nat) (j : Int), i < N.length → -100000 ≤ j → j ≤ 100000 → RefOk N ⟨(i : Int), j⟩ := fun i j hi j1 j2 => ⟨by dsimp only; omega, by dsimp only; omega, by dsimp only; omega⟩
  have q1 := sub_run hG (ok (cnt t) 0 (by omega) (by omega) (by omega)) (ok 0 0 (by omega) (by omega) (by omega))
  have q2 := sub_run hG (ok 0 0 (by omega) (by omega) (by omega)) (ok (cnt t) 0 (by omega) (by omega) (by omega))
  have k1 : subB N ⟨(cnt t : Int), 0⟩ ⟨((0 : Nat) : Int), 0⟩ = decide (t.kind = 6) := by
    rw [Bool.eq_iff_iff, subB_iff, key3_eq, decide_eq_true_eq]
    refine ⟨fun h => ?_, fun h => (pl.1 h).1⟩
    rcases hkind with k | k
    · exact k
    · exact absurd h (pl.2 k).2
  have k2 : subB N ⟨((0 : Nat) : Int), 0⟩ ⟨(cnt t : Int), 0⟩ = !decide (t.kind = 6) := by
    rcases hkind with k | k
    · rw [decide_eq_true k]
      cases hh : subB N ⟨((0 : Nat) : Int), 0⟩ ⟨(cnt t : Int), 0⟩ with
      | false => rfl
      | true => exact absurd (by have := subB_iff.1 hh; rw [key3_eq] at this; exact this) (pl.1 k).2
    · rw [decide_eq_false (by omega)]
      exact subB_iff.2 (by rw [key3_eq]; exact (pl.2 k).1)
  rw [k1] at q1
  rw [k2] at q2
  have n0 : (nS 0).data = .agg [.int .i64 0, .int .i64 0] := rfl
  have n1 : (nS (cnt t)).data = .agg [.int .i64 (cnt t : Int), .int .i64 0] := rfl
  have c0 : (((0 : Nat) : Int)) = 0 := rfl
  simp only [Rf.data_eq, c0] at q1 q2
  rw [List.map_cons, List.map_cons, List.map_nil, List.map_cons, List.map_cons, List.map_nil, n0, n1, da, dm] at hg
  generalize cnt t = m1 at *
  refine runW_fn rfl rfl ?_
  unfold runFn c8
  cases hd : decide (t.kind = 6) <;> (rw [hd] at q1 q2; simp only [go_sem, hw, sa, ha, sb, hb, eb, z1, z2, z3, hra, hb1, hb2, hri, z4, hg, q1, q2, hd])
end Go.Proofs.YtijfioakpngdhaaDoor
