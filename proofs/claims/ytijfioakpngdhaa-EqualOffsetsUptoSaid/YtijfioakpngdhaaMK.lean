/- Equality of closed types, and of the references that stand for them. -/
import Derived.Test.YtijfioakpngdhaaMI
import Derived.Test.YtijfioakpngdhaaMJ
namespace Go.Proofs.Ytijfioakpngdhaa
open Go.V
set_option maxRecDepth 100000
set_option linter.unusedSimpArgs false
set_option linter.unusedVariables false

/-- the place of a type's kid in another type -/
def kIdxT (x y : T) (i : Nat) : Option Nat := if x.labels.length = 0 then some i else match x.labels[i]? with | some s => idx? y.labels s | none => none
/-- two unfolded types fit, and the pairs of kids behind them are in a set -/
def LocT (a b : T) (S : T → T → Prop) : Prop := Unf a ∧ Unf b ∧ (unfoldE a).kind = (unfoldE b).kind ∧ (unfoldE a).labels.length = (unfoldE b).labels.length ∧ (actB (unfoldE a).kind = true → (unfoldE a).prio = (unfoldE b).prio) ∧
  ∀ (i : Nat) (s : T), (unfoldE a).kids[i]? = some s → ∃ k s', kIdxT (unfoldE a) (unfoldE b) i = some k ∧ (unfoldE b).kids[k]? = some s' ∧ S s s'
theorem LocT.mono {a b : T} {S S' : T → T → Prop} (h : LocT a b S) (hs : ∀ x y, S x y → S' x y) : LocT a b S' := by
  obtain ⟨h1, h2, h3, h4, h5, h6⟩ := h
  refine ⟨h1, h2, h3, h4, h5, fun i s hi => ?_⟩
  obtain ⟨k, s', k1, k2, k3⟩ := h6 i s hi
  exact ⟨k, s', k1, k2, hs _ _ k3⟩
def EqT (a b : T) : Prop := ∃ R : T → T → Prop, (∀ x y, R x y → LocT x y R) ∧ R a b
theorem EqT.loc {a b : T} (h : EqT a b) : LocT a b EqT := by
  obtain ⟨R, h1, h2⟩ := h
  exact (h1 a b h2).mono fun x y hxy => ⟨R, h1, hxy⟩

theorem GP.raise {ty : Nat → T} {r : Rf} {c : T} (h : GP ty r c) (k : Int) : GP ty ⟨r.node, r.shift + k⟩ (raiseE k c) := by
  have hr := h.unf.raise k
  refine ⟨h.cl.raise k, raise_wf k c h.wf, hr.1, ?_⟩
  rw [hr.2, h.eq, raise_raise]
/-- what is known of a reference's type: its node's fields, raised -/
theorem gp_fields {N : List Nd} {ty : Nat → T} (hN : ∀ (i : Nat) (x : Nd), N[i]? = some x → NT ty x (ty i)) {r : Rf} {c : T} {x : Nd} (h : GP ty r c) (hx : N[r.node.toNat]? = some x) :
    (unfoldE c).kind = x.kind ∧ (unfoldE c).labels = x.labels ∧ (unfoldE c).prio = (if 4 ≤ x.kind ∧ x.kind ≤ 7 then IntKind.wrap .i64 (x.prio + r.shift) else x.prio) ∧ (unfoldE c).kids.length = x.next.length ∧
      ∀ (i : Nat) (s : T), (unfoldE c).kids[i]? = some s → ∃ q, x.next[i]? = some q ∧ GP ty ⟨q.node, q.shift + r.shift⟩ s := by
  have nt := hN _ x hx
  rw [h.eq, raise_kind, raise_labels, raise_prio, raise_kids, List.length_map, nt.kind, nt.labels, nt.prio, nt.len]
  refine ⟨rfl, rfl, rfl, rfl, fun i s hs => ?_⟩
  rw [List.getElem?_map] at hs
  cases hk : (ty r.node.toNat).kids[i]? with
  | none => rw [hk] at hs; cases hs
  | some u =>
    rw [hk] at hs
    injection hs with hs
    subst hs
    have hi : i < x.next.length := by rw [← nt.len]; exact (List.getElem?_eq_some_iff.1 hk).1
    have hq : x.next[i]? = some x.next[i] := List.getElem?_eq_getElem hi
    exact ⟨_, hq, (nt.kids i _ u hq hk).raise _⟩
theorem actB_iff {k : Int} : actB k = true ↔ 4 ≤ k ∧ k ≤ 7 := by unfold actB; simp
theorem eqt_of_eqp {N : List Nd} {B : Int} (hG : GOk N B) {ty : Nat → T} (hN : ∀ (i : Nat) (x : Nd), N[i]? = some x → NT ty x (ty i)) {r q : Rf} {a b : T} (ha : GP ty r a) (hb : GP ty q b) (h : EqP N false (r.node, q.node, r.shift - q.shift)) : EqT a b := by
  refine ⟨fun a b => ∃ r q, GP ty r a ∧ GP ty q b ∧ EqP N false (r.node, q.node, r.shift - q.shift), fun a b hab => ?_, r, q, ha, hb, h⟩
  obtain ⟨r, q, ha, hb, h⟩ := hab
  obtain ⟨x, y, h1, h2, h3, h4, h5, h6, h7, h8⟩ := h.loc
  dsimp only at h1 h2 h3 h4 h7 h8
  obtain ⟨a1, a2, a3, a4, a5⟩ := gp_fields hN ha h3
  obtain ⟨b1, b2, b3, b4, b5⟩ := gp_fields hN hb h4
  refine ⟨ha.unf, hb.unf, by rw [a1, b1, h5], by rw [a2, b2, h6], fun hact => ?_, fun i s hs => ?_⟩
  · rw [a1] at hact
    have e := h7 rfl hact
    have hk := actB_iff.1 hact
    rw [a3, b3, if_pos hk, if_pos (by rw [← h5]; exact hk)]
    rw [show x.prio + r.shift = y.prio + q.shift by omega]
  · obtain ⟨p, p1, p2⟩ := a5 i s hs
    obtain ⟨k, p', k1, k2, k3⟩ := h8 i p p1
    have hkl : k < (unfoldE b).kids.length := by rw [b4]; exact (List.getElem?_eq_some_iff.1 k2).1
    have hs' : (unfoldE b).kids[k]? = some (unfoldE b).kids[k] := List.getElem?_eq_getElem hkl
    obtain ⟨p'', m1, m2⟩ := b5 k _ hs'
    rw [k2] at m1
    injection m1 with m1
    subst m1
    refine ⟨k, _, ?_, hs', _, _, p2, m2, ?_⟩
    · unfold kIdxT
      rw [a2, b2]
      exact k1
    · unfold ndf at k3
      rw [if_neg (by decide)] at k3
      dsimp only
      rw [show p.shift + r.shift - (p'.shift + q.shift) = r.shift - q.shift + p.shift - p'.shift by omega]
      exact k3
theorem wrap_close {a b : Int} (h : IntKind.wrap .i64 a = IntKind.wrap .i64 b) (hd : -9000000000000000000 ≤ a - b ∧ a - b ≤ 9000000000000000000) : a = b := by
  obtain ⟨p, hp⟩ := wrap_spec a
  obtain ⟨q, hq⟩ := wrap_spec b
  omega
theorem eqp_of_eqt {N : List Nd} {B : Int} (hG : GOk N B) {ty : Nat → T} (hN : ∀ (i : Nat) (x : Nd), N[i]? = some x → NT ty x (ty i)) {r q : Rf} {a b : T} (ha : GP ty r a) (hb : GP ty q b) (hr : 0 ≤ r.node ∧ r.node < N.length) (hq : 0 ≤ q.node ∧ q.node < N.length)
    (hd : -1000000000000 ≤ r.shift - q.shift ∧ r.shift - q.shift ≤ 1000000000000) (h : EqT a b) : EqP N false (r.node, q.node, r.shift - q.shift) := by
  have hsm := hG.small
  refine ⟨fun p => ∃ r q a b, p = (r.node, q.node, r.shift - q.shift) ∧ GP ty r a ∧ GP ty q b ∧ (0 ≤ r.node ∧ r.node < (N.length : Int)) ∧ (0 ≤ q.node ∧ q.node < (N.length : Int)) ∧ (-1000000000000 ≤ r.shift - q.shift ∧ r.shift - q.shift ≤ 1000000000000) ∧ EqT a b, fun p hp => ?_, r, q, a, b, rfl, ha, hb, hr, hq, hd, h⟩
  obtain ⟨r, q, a, b, rfl, ha, hb, hr, hq, hd, h⟩ := hp
  obtain ⟨h1, h2, h3, h4, h5, h6⟩ := h.loc
  obtain ⟨x, hx⟩ := get_of hr.1 hr.2
  obtain ⟨y, hy⟩ := get_of hq.1 hq.2
  have nx := hG.ns x (List.mem_of_getElem? hx)
  have ny := hG.ns y (List.mem_of_getElem? hy)
  obtain ⟨a1, a2, a3, a4, a5⟩ := gp_fields hN ha hx
  obtain ⟨b1, b2, b3, b4, b5⟩ := gp_fields hN hb hy
  rw [a1, b1] at h3
  rw [a2, b2] at h4
  rw [a1] at h5
  have hpe : actB x.kind = true → x.prio + (r.shift - q.shift) = y.prio := fun hact => by
    have e := h5 hact
    have hk := actB_iff.1 hact
    rw [a3, b3, if_pos hk, if_pos (by rw [← h3]; exact hk)] at e
    have := nx.prio
    have := ny.prio
    have := wrap_close e (by omega)
    omega
  refine ⟨x, y, hr.1, hq.1, hx, hy, h3, h4, fun _ => hpe, fun i p hp => ?_⟩
  have hil := (List.getElem?_eq_some_iff.1 hp).1
  have hs : (unfoldE a).kids[i]? = some ((unfoldE a).kids[i]'(by rw [a4]; exact hil)) := List.getElem?_eq_getElem _
  obtain ⟨k, s', k1, k2, k3⟩ := h6 i _ hs
  obtain ⟨p0, m1, m2⟩ := a5 i _ hs
  rw [hp] at m1
  injection m1 with m1
  subst m1
  obtain ⟨p', n1, n2⟩ := b5 k s' k2
  have hact : actB x.kind = true := by
    have := nx.low
    by_cases h : x.kind ≤ 3
    · rw [(nx.leaf h).1] at hil; exact absurd hil (by simp)
    · exact actB_iff.2 (by omega)
  have e := hpe hact
  have := nx.prio
  have := ny.prio
  have q1 := hG.refs x (List.mem_of_getElem? hx) p (List.mem_of_getElem? hp)
  have q2 := hG.refs y (List.mem_of_getElem? hy) p' (List.mem_of_getElem? n1)
  have s1 := hG.shifts x (List.mem_of_getElem? hx) p (List.mem_of_getElem? hp)
  have s2 := hG.shifts y (List.mem_of_getElem? hy) p' (List.mem_of_getElem? n1)
  refine ⟨k, p', ?_, n1, ⟨p.node, p.shift + r.shift⟩, ⟨p'.node, p'.shift + q.shift⟩, _, s', ?_, m2, n2, q1, q2, ?_, k3⟩
  · unfold kIdxT at k1
    rw [a2, b2] at k1
    exact k1
  · unfold ndf
    rw [if_neg (by decide)]
    dsimp only
    rw [show p.shift + r.shift - (p'.shift + q.shift) = r.shift - q.shift + p.shift - p'.shift by omega]
  · dsimp only; omega
/-- types that unfold to the same are equal -/
theorem eqt_same {N : List Nd} {B : Int} (hG : GOk N B) {ty : Nat → T} (hN : ∀ (i : Nat) (x : Nd), N[i]? = some x → NT ty x (ty i)) {r : Rf} {a b : T} (ha : GP ty r a) (hr : 0 ≤ r.node ∧ r.node < N.length) (hb : Unf b) (h : unfoldE b = unfoldE a) : EqT a b := by
  refine ⟨fun a b => ∃ r, GP ty r a ∧ (0 ≤ r.node ∧ r.node < (N.length : Int)) ∧ Unf b ∧ unfoldE b = unfoldE a, fun a b hab => ?_, r, ha, hr, hb, h⟩
  obtain ⟨r, ha, hr, hb, h⟩ := hab
  obtain ⟨x, hx⟩ := get_of hr.1 hr.2
  have nx := hG.ns x (List.mem_of_getElem? hx)
  obtain ⟨a1, a2, a3, a4, a5⟩ := gp_fields hN ha hx
  refine ⟨ha.unf, hb, by rw [h], by rw [h], fun _ => by rw [h], fun i s hs => ?_⟩
  obtain ⟨q, q1, q2⟩ := a5 i s hs
  have q3 := hG.refs x (List.mem_of_getElem? hx) q (List.mem_of_getElem? q1)
  refine ⟨i, s, ?_, by rw [h]; exact hs, _, q2, q3, q2.unf, rfl⟩
  have := kIdx_self nx (List.getElem?_eq_some_iff.1 q1).1
  unfold kIdxT
  unfold kIdx at this
  rw [h, a2]
  exact this
end Go.Proofs.Ytijfioakpngdhaa

namespace Go.Proofs.Ytijfioakpngdhaa
open Go.V
set_option maxRecDepth 100000
set_option linter.unusedSimpArgs false
set_option linter.unusedVariables false

theorem small_mono {t : T} {m n : Int} (h : smallB t m = true) (hmn : m ≤ n) : smallB t n = true := by
  unfold smallB fewB at h ⊢
  simp only [Bool.and_eq_true, decide_eq_true_eq] at h ⊢
  exact ⟨⟨by omega, h.1.2⟩, h.2⟩
/-- a leaf is equal to a leaf of its kind, whatever the shifts are -/
theorem eqp_leaf {N : List Nd} {B : Int} (hG : GOk N B) {a b d e : Int} (h : EqP N false (a, b, d)) {x : Nd} (hx : N[a.toNat]? = some x) (hl : x.kind ≤ 3) : EqP N false (a, b, e) := by
  obtain ⟨x', y, h1, h2, h3, h4, h5, h6, h7, h8⟩ := h.loc
  dsimp only at h1 h2 h3 h4
  rw [hx] at h3
  injection h3 with h3
  subst h3
  have nx := hG.ns x (List.mem_of_getElem? hx)
  refine ⟨fun q => q = (a, b, e), fun q hq => ?_, rfl⟩
  subst hq
  refine ⟨x, y, h1, h2, hx, h4, h5, h6, fun _ ha => ?_, fun i r hr => ?_⟩
  · have := actB_iff.1 ha; omega
  · rw [(nx.leaf hl).1] at hr; cases hr
theorem eqp_prio {N : List Nd} {a b d : Int} (h : EqP N false (a, b, d)) {x y : Nd} (hx : N[a.toNat]? = some x) (hy : N[b.toNat]? = some y) (hact : actB x.kind = true) : x.prio + d = y.prio := by
  obtain ⟨x', y', h1, h2, h3, h4, h5, h6, h7, h8⟩ := h.loc
  dsimp only at h1 h2 h3 h4 h7
  rw [hx] at h3
  rw [hy] at h4
  injection h3 with h3
  injection h4 with h4
  subst h3; subst h4
  exact h7 rfl hact
theorem equalUnfolds_run (t : T) (k : Int) (hw : Wf t) (hk : -32768 ≤ k ∧ k < 32768) : RW 3 [.d t.data, .d (.int .i16 k)] [] = some (.d (.bool true), []) := by
  have ha := awake10_run
  have hs := small_run t 20 hw (by omega) (by omega)
  cases hsm : smallB t 20 with
  | false =>
    rw [T.data_eq] at hs ⊢
    refine runW_fn rfl rfl ?_
    unfold runFn c3
    simp only [go_sem, ha, hs, hsm]
  | true =>
    have hf1 := few_fine (l := [t]) (n := 1) (m := 20) (fun s hs => by rw [List.mem_singleton.1 hs]; exact hw) (by omega) (by omega) ⟨by simp, fun s hs => by rw [List.mem_singleton.1 hs]; exact hsm⟩
    obtain ⟨ty1, hT1⟩ := graph_gt [t] 20 (by omega) hf1.wf (fun s hs => by rw [List.mem_singleton.1 hs]; exact hsm)
    have hUt : Unf t := (hT1.ref 0 _ t rfl rfl).unf
    have hu := unfold_run hw hUt
    have hwu := unfold_wf hw
    have hu8 := hUt.kind
    have hst := Unf.stay hu8
    generalize hut : unfoldE t = u at *
    have hsu := small_run u 400 hwu (by omega) (by omega)
    unfold tyV at hu
    rw [T.data_eq] at hs hu hsu
    cases hsmu : smallB u 400 with
    | false =>
      rw [T.data_eq]
      refine runW_fn rfl rfl ?_
      unfold runFn c3
      simp only [go_sem, ha, hs, hsm, hu, hsu, hsmu]
    | true =>
      have hwl : ∀ s ∈ [t, u], Wf s := fun s hs => by
        rcases List.mem_cons.1 hs with e | e
        · rw [e]; exact hw
        · rw [List.mem_singleton.1 e]; exact hwu
      have hsl : ∀ s ∈ [t, u], smallB s 400 = true := fun s hs => by
        rcases List.mem_cons.1 hs with e | e
        · rw [e]; exact small_mono hsm (by omega)
        · rw [List.mem_singleton.1 e]; exact hsmu
      have so1 := small_out hw (by omega) hsm
      have so2 := small_out hwu (by omega) hsmu
      have hsz : T.sizeL [t, u] ≤ 1000 := by rw [T.sizeL, T.sizeL, T.sizeL]; omega
      have hfine := few_fine (l := [t, u]) (n := 2) (m := 400) hwl (by omega) (by omega) ⟨by simp, hsl⟩
      have hg := graph_run [t, u] hfine
      have hG := graph_ok (l := [t, u]) (m := 400) (by omega) (by simp) hwl hsl hsz
      obtain ⟨ty, hT⟩ := graph_gt [t, u] 400 (by omega) hwl hsl
      have hlen := nodesL_len [t, u] 0 [] [] hfine.shp
      have hrt : nextsL [t, u] 0 [] [] = [⟨0, 0⟩, ⟨(cnt t : Int), 0⟩] := by
        rw [nextsL, nextsL, nextsL, refE_top hw (by omega) hsm, refE_top hwu (by omega) hsmu, Int.zero_add]
      rw [hrt] at hg hT
      have hcl : cntL [t, u] = cnt t + cnt u := by rw [cntL, cntL, cntL]; omega
      rw [hcl] at hlen
      generalize nodesL [t, u] 0 [] [] = N at *
      have gp0 := hT.ref 0 ⟨0, 0⟩ t rfl rfl
      have gp1 := hT.ref 1 ⟨(cnt t : Int), 0⟩ u rfl rfl
      have hET := eqt_same hG hT.node gp0 (by dsimp only; omega) gp1.unf (by rw [hst.2, hut])
      have hE := eqp_of_eqt hG hT.node gp0 gp1 (by dsimp only; omega) (by dsimp only; omega) (by dsimp only; omega) hET
      dsimp only at hE
      rw [Int.sub_zero] at hE
      obtain ⟨x, hx⟩ := get_of (N := N) (a := 0) (by omega) (by omega)
      obtain ⟨y, hy⟩ := get_of (N := N) (a := (cnt t : Int)) (by omega) (by omega)
      have hkx := (gp_fields hT.node gp0 hx).1
      rw [hut] at hkx
      have ok : ∀ j : Int, -100000 ≤ j → j ≤ 100000 → RefOk N ⟨0, j⟩ ∧ RefOk N ⟨(cnt t : Int), j⟩ := fun j j1 j2 => ⟨⟨by dsimp only; omega, by dsimp only; omega, by dsimp only; omega⟩, ⟨by dsimp only; omega, by dsimp only; omega, by dsimp only; omega⟩⟩
      have q1 := equal_run hG (ok 0 (by omega) (by omega)).1 (ok 0 (by omega) (by omega)).2
      have q2 := equal_run hG (ok k (by omega) (by omega)).1 (ok k (by omega) (by omega)).2
      have q3 := alike_run hG (ok k (by omega) (by omega)).1 (ok 0 (by omega) (by omega)).2
      have q4 := equal_run hG (ok k (by omega) (by omega)).1 (ok 0 (by omega) (by omega)).2
      have b1 : eqB N ⟨0, 0⟩ ⟨(cnt t : Int), 0⟩ = true := eqB_iff.2 (by unfold key3 ndf; rw [if_neg (by decide)]; dsimp only; rw [Int.sub_zero]; exact hE)
      have b2 : eqB N ⟨0, k⟩ ⟨(cnt t : Int), k⟩ = true := eqB_iff.2 (by unfold key3 ndf; rw [if_neg (by decide)]; dsimp only; rw [Int.sub_self]; exact hE)
      have b3 : alB N ⟨0, k⟩ ⟨(cnt t : Int), 0⟩ = true := alB_iff.2 (by unfold key3 ndf; rw [if_pos rfl]; dsimp only; exact eqp_alike hE)
      have b4 : eqB N ⟨0, k⟩ ⟨(cnt t : Int), 0⟩ = (decide (k = 0) || decide (u.kind ≤ 3)) := by
        have key : key3 false ⟨0, k⟩ ⟨(cnt t : Int), 0⟩ = (0, (cnt t : Int), k) := by unfold key3 ndf; rw [if_neg (by decide)]; dsimp only; rw [Int.sub_zero]
        by_cases h0 : k = 0
        · rw [decide_eq_true h0]
          exact eqB_iff.2 (by rw [key, h0]; exact hE)
        · rw [decide_eq_false h0]
          by_cases h3 : u.kind ≤ 3
          · rw [decide_eq_true h3]
            exact eqB_iff.2 (by rw [key]; exact eqp_leaf hG hE hx (by omega))
          · rw [decide_eq_false h3]
            cases hb : eqB N ⟨0, k⟩ ⟨(cnt t : Int), 0⟩ with
            | false => rfl
            | true =>
              have h1 := eqB_iff.1 hb
              rw [key] at h1
              have nx := (hG.ns x (List.mem_of_getElem? hx)).low
              have hact : actB x.kind = true := actB_iff.2 (by omega)
              have e1 := eqp_prio h1 hx hy hact
              have e2 := eqp_prio hE hx hy hact
              omega
      rw [b1] at q1
      rw [b2] at q2
      rw [b3] at q3
      rw [b4] at q4
      rw [Rf.data_eq, Rf.data_eq] at q1 q2 q3 q4
      dsimp only at q1 q2 q3 q4
      have w1 : IntKind.wrap .i64 k = k := wrap64 (by omega) (by omega)
      have w2 : IntKind.wrap .i64 (0 + k) = k := by rw [Int.zero_add]; exact w1
      rw [List.map_cons, List.map_cons, List.map_nil, T.data_eq, T.data_eq] at hg
      rw [T.data_eq]
      refine runW_fn rfl rfl ?_
      unfold runFn c3
      cases d1 : decide (k = 0) <;> cases d2 : decide (u.kind ≤ 3) <;> (rw [d1, d2] at q4; simp only [go_sem, ha, hs, hsm, hu, hsu, hsmu, hg, Rf.data_eq, w1, w2, q1, q2, q3, q4, d1, d2])
end Go.Proofs.Ytijfioakpngdhaa
