/- The reference's comparison of types, walked: one kid. -/
import Derived.Test.YtijfioakpngdhaaMM
import Derived.Test.YtijfioakpngdhaaMK
namespace Go.Proofs.Ytijfioakpngdhaa
open Go.V
set_option maxRecDepth 100000
set_option linter.unusedSimpArgs false
set_option linter.unusedVariables false

@[go_sem] theorem z_prcs (p : T × T) : (prD p).cells = [.int .i64 p.1.kind, .int .i64 p.1.prio, .str p.1.name, .int .i64 p.1.shift, .sl 1 (p.1.labels.map .str), .sl 6 (p.1.kids.map T.data), .int .i64 p.2.kind, .int .i64 p.2.prio, .str p.2.name, .int .i64 p.2.shift, .sl 1 (p.2.labels.map .str), .sl 6 (p.2.kids.map T.data)] := rfl
/-- the pair that the reference keeps for two types -/
noncomputable def pairT (a b : T) : T × T := lowE (unfoldE a) (unfoldE b)
def bxO (t : T) (a b : Nat) : AObj := .box [.d (.int .i64 t.kind), .d (.int .i64 t.prio), .d (.str t.name), .d (.int .i64 t.shift), .own a, .own b]
def cmO (L : List (T × T)) (u : Bool) : Objs := [(0, some (.box [.own 1])), (1, some (.arr 12 (L.map prD) u))]
def cmR (L M : List (T × T)) (u : Bool) : Objs := match M with
  | [] => [(0, some (.box [.own 1])), (1, some (.arr 12 (L.map prD) u))]
  | _ :: _ => [(0, some (.box [.own 2])), (1, none), (2, some (.arr 12 ((L ++ M).map prD) u))]
/-- a node's type, lowered -/
def ltN (ty : Nat → T) (i : Nat) : T := raiseE (-prioU (ty i)) (ty i)
noncomputable def allP (N : List Nd) (ty : Nat → T) : List (T × T) := (List.range N.length).flatMap fun i => (List.range N.length).map fun j => (ltN ty i, ltN ty j)
noncomputable def muP (N : List Nd) (ty : Nat → T) (L : List (T × T)) : Nat := (allP N ty).countP fun p => !memP p L
theorem len_allP (N : List Nd) (ty : Nat → T) : (allP N ty).length = N.length * N.length := by
  unfold allP
  rw [List.length_flatMap]
  have : (List.range N.length).map (fun i => ((List.range N.length).map fun j => (ltN ty i, ltN ty j)).length) = (List.range N.length).map fun _ => N.length := by
    refine List.map_congr_left fun i _ => ?_
    rw [List.length_map, List.length_range]
  rw [this, sum_const N.length, List.length_range]
theorem mem_allP {N : List Nd} {ty : Nat → T} {i j : Nat} (hi : i < N.length) (hj : j < N.length) : (ltN ty i, ltN ty j) ∈ allP N ty :=
  List.mem_flatMap.2 ⟨i, List.mem_range.2 hi, List.mem_map.2 ⟨j, List.mem_range.2 hj, rfl⟩⟩
theorem muP_lt {N : List Nd} {ty : Nat → T} {L : List (T × T)} {p : T × T} (h : p ∈ allP N ty) (hn : p ∉ L) : muP N ty (L ++ [p]) < muP N ty L := by
  unfold muP
  refine countP_lt (x := p) (fun z _ hz => ?_) h (by rw [memP_false hn]; rfl) (by rw [memP_iff.2 (List.mem_append.2 (.inr (List.mem_singleton.2 rfl)))]; rfl)
  cases hb : memP z L with
  | false => rfl
  | true => rw [memP_iff.2 (List.mem_append.2 (.inl (memP_iff.1 hb)))] at hz; exact hz
theorem wrap_mod (s p : Int) : IntKind.wrap .i64 (s + -IntKind.wrap .i64 (p + s)) = IntKind.wrap .i64 (-p) := by
  obtain ⟨q, hq⟩ := wrap_spec (p + s)
  exact wrap_congr (q := -q) (by rw [hq]; omega)
theorem raise_congr {k l : Int} (h : IntKind.wrap .i64 k = IntKind.wrap .i64 l) (t : T) : raiseE k t = raiseE l t := by rw [← raise_wrap k, ← raise_wrap l, h]
theorem raise_leaf (k : Int) {t : T} (h : actB t.kind = false) (hk : t.kids = []) : raiseE k t = t := by
  have hn : ¬ (4 ≤ t.kind ∧ t.kind ≤ 7) := fun hh => by rw [actB_iff.2 hh] at h; cases h
  rw [raise_eq, if_neg hn, hk, List.map_nil, ← hk, T.eta]
section
variable (N : List Nd) (ty : Nat → T)
/-- a closed type of the graph -/
def InG (a : T) : Prop := ∃ r, GP ty r a ∧ 0 ≤ r.node ∧ r.node < (N.length : Int)
/-- a pair that was seen, and the pairs behind it -/
def LocPP (S : T × T → Prop) (p : T × T) : Prop := ∃ a b, InG N ty a ∧ InG N ty b ∧ p = pairT a b ∧ LocT a b fun c c' => S (pairT c c')
def CmPost (cap : Nat) (L : List (T × T)) (a b : T) (r : Bool) (M : List (T × T)) : Prop := (∀ p ∈ M, Wf p.1 ∧ Wf p.2) ∧ (L ++ M).length + muP N ty (L ++ M) ≤ cap ∧
  (r = true → pairT a b ∈ L ++ M ∧ ∀ p ∈ M, LocPP N ty (· ∈ L ++ M) p) ∧ (EqT a b → r = true)
def CmRuns (cap : Nat) (L : List (T × T)) (u : Bool) (a b : T) : Prop := ∃ r M u', RW 65 [.d a.data, .d b.data, .ptr 0 0] (cmO L u) = some (.d (.bool r), cmR L M u') ∧ CmPost N ty cap L a b r M
def BehindT (x y : T) (i : Nat) (S : List (T × T)) : Prop := ∀ (j : Nat) (c : T), j < i → x.kids[j]? = some c → ∃ k c', kIdxT x y j = some k ∧ y.kids[k]? = some c' ∧ pairT c c' ∈ S
end
section
variable {N : List Nd} {B : Int} {ty : Nat → T}
/-- the pair of two types that fit: the lowered types of their nodes -/
theorem pair_lt (hG : GOk N B) (hN : ∀ (i : Nat) (x : Nd), N[i]? = some x → NT ty x (ty i)) {r q : Rf} {a b : T} (ha : GP ty r a) (hb : GP ty q b) (hr : 0 ≤ r.node ∧ r.node < N.length) (hq : 0 ≤ q.node ∧ q.node < N.length)
    (hk : (unfoldE a).kind = (unfoldE b).kind) (hp : (unfoldE a).prio = (unfoldE b).prio) : pairT a b = (ltN ty r.node.toNat, ltN ty q.node.toNat) := by
  obtain ⟨x, hx⟩ := get_of hr.1 hr.2
  obtain ⟨y, hy⟩ := get_of hq.1 hq.2
  have nx := hG.ns x (List.mem_of_getElem? hx)
  have ny := hG.ns y (List.mem_of_getElem? hy)
  have tx := hN _ x hx
  have ty' := hN _ y hy
  unfold pairT lowE ltN
  rw [ha.eq, hb.eq, raise_kind, raise_kind] at hk
  rw [ha.eq, hb.eq, raise_prio, raise_prio] at hp
  rw [ha.eq, hb.eq]
  have hkx := tx.kind
  have hky := ty'.kind
  unfold prioU
  rw [raise_kind, raise_prio, ← hk]
  generalize ty r.node.toNat = c at *
  generalize ty q.node.toNat = d at *
  cases hact : actB c.kind with
  | true =>
    have h47 := actB_iff.1 hact
    rw [if_pos rfl, if_pos rfl, if_pos rfl, if_pos h47]
    rw [if_pos h47, if_pos (by rw [← hk]; exact h47)] at hp
    congr 1
    · rw [raise_raise]
      exact raise_congr (wrap_mod _ _) _
    · rw [raise_raise, hp]
      exact raise_congr (wrap_mod _ _) _
  | false =>
    have hn : ¬ (4 ≤ x.kind ∧ x.kind ≤ 7) := fun hh => by rw [hkx, actB_iff.2 hh] at hact; cases hact
    have l3 : x.kind ≤ 3 := by have := nx.low; omega
    have kx : c.kids = [] := List.eq_nil_of_length_eq_zero (by rw [tx.len, (nx.leaf l3).1]; rfl)
    have ky : d.kids = [] := List.eq_nil_of_length_eq_zero (by rw [ty'.len, (ny.leaf (by omega)).1]; rfl)
    have hact2 : actB d.kind = false := by rw [← hk]; exact hact
    rw [raise_leaf _ hact kx, raise_leaf _ hact2 ky, raise_leaf _ hact kx, raise_leaf _ hact kx, raise_leaf _ hact2 ky]
    rw [raise_leaf _ hact2 ky]
theorem InG.wf {a : T} (h : InG N ty a) : Wf a ∧ Unf a := by obtain ⟨r, h, _⟩ := h; exact ⟨h.wf, h.unf⟩
theorem InG.kid (hG : GOk N B) (hN : ∀ (i : Nat) (x : Nd), N[i]? = some x → NT ty x (ty i)) {a c : T} {i : Nat} (h : InG N ty a) (hc : (unfoldE a).kids[i]? = some c) : InG N ty c := by
  obtain ⟨r, ha, h0, h1⟩ := h
  obtain ⟨x, hx⟩ := get_of h0 h1
  obtain ⟨q, q1, q2⟩ := (gp_fields hN ha hx).2.2.2.2 i c hc
  have := hG.refs x (List.mem_of_getElem? hx) q (List.mem_of_getElem? q1)
  exact ⟨_, q2, this.1, this.2⟩
end
end Go.Proofs.Ytijfioakpngdhaa

namespace Go.Proofs.Ytijfioakpngdhaa
open Go.V
set_option maxRecDepth 100000
set_option linter.unusedSimpArgs false
set_option linter.unusedVariables false

def cmI (x y : T) (L : List (T × T)) (u : Bool) (i : Nat) : St := ⟨[(2, .ptr 0 0), (7, .ptr 3 0), (8, .ptr 6 0), (10, .d (.int .i64 i))],
  [(0, some (.box [.own 2])), (1, none), (2, some (.arr 12 (L.map prD) u)), (3, some (bxO x 4 5)), (4, some (.arr 1 (x.labels.map .str) false)), (5, some (.arr 6 (x.kids.map T.data) false)), (6, some (bxO y 7 8)), (7, some (.arr 1 (y.labels.map .str) false)), (8, some (.arr 6 (y.kids.map T.data) false))], 9, 2, false⟩
section
variable {N : List Nd} {B : Int} {ty : Nat → T}
def CmInv (N : List Nd) (ty : Nat → T) (cap : Nat) (x y : T) (L : List (T × T)) (i : Nat) (s : St) : Prop := ∃ M u, s = cmI x y (L ++ M) u i ∧ (∀ p ∈ M, Wf p.1 ∧ Wf p.2) ∧ (L ++ M).length + muP N ty (L ++ M) ≤ cap ∧ (∀ p ∈ M, LocPP N ty (· ∈ L ++ M) p) ∧ BehindT x y i (L ++ M)
def CmQ (N : List Nd) (ty : Nat → T) (cap : Nat) (x y : T) (L : List (T × T)) (e : Out × St) : Prop :=
  (∃ M u fr nx, e = (.exit 0, ⟨fr, (cmI x y (L ++ M) u 0).ob, nx, 2, false⟩) ∧ (∀ p ∈ M, Wf p.1 ∧ Wf p.2) ∧ (L ++ M).length + muP N ty (L ++ M) ≤ cap ∧ (∀ p ∈ M, LocPP N ty (· ∈ L ++ M) p) ∧ BehindT x y x.kids.length (L ++ M)) ∨
  (∃ M u fr ob nx, e = (.ret, ⟨fr, ob, nx, 2, false⟩) ∧ fget fr 6 = .d (.bool false) ∧ fin1 ⟨fr, ob, nx, 2, false⟩ [.d (.bool false)] = some (.d (.bool false), [(0, some (.box [.own 2])), (1, none), (2, some (.arr 12 ((L ++ M).map prD) u))]) ∧ (∀ p ∈ M, Wf p.1 ∧ Wf p.2) ∧ (L ++ M).length + muP N ty (L ++ M) ≤ cap ∧
    ∃ (j : Nat) (c : T), x.kids[j]? = some c ∧ ∀ k c', kIdxT x y j = some k → y.kids[k]? = some c' → ¬ EqT c c')
theorem cm_step (cap : Nat) (x y : T) (L : List (T × T)) (hwx : Wf x) (hwy : Wf y) (hy8 : y.kind ≠ 8) (hlen : x.kids.length = y.kids.length) (hxl : x.labels.length ≠ 0 → x.kids.length = x.labels.length) (hperm : List.Perm x.labels y.labels)
    (rec : ∀ (M : List (T × T)) (u : Bool) (c c' : T), c ∈ x.kids → c' ∈ y.kids → (∀ p ∈ M, Wf p.1 ∧ Wf p.2) → (L ++ M).length + muP N ty (L ++ M) ≤ cap → CmRuns N ty cap (L ++ M) u c c') (i : Nat) (s : St) (hi : i < x.kids.length) (hI : CmInv N ty cap x y L i s) :
    (∃ s', exec att RW LW c65_l0 s = some (.normal, s') ∧ CmInv N ty cap x y L (i + 1) (norm [2, 7, 8, 10] s')) ∨ (∃ e, exec att RW LW c65_l0 s = some e ∧ e.1 ≠ .normal ∧ CmQ N ty cap x y L e) := by
  obtain ⟨M, u, rfl, hW, hcap, hM, hBe⟩ := hI
  have hlx := hwx.len
  have hi' : decide ((i : Int) < (x.kids.length : Int)) = true := decide_eq_true (by omega)
  have di : decide (i < x.kids.length) = true := decide_eq_true hi
  have di2 : decide (i < y.kids.length) = true := decide_eq_true (by omega)
  have w5 : IntKind.wrap .i64 ((i : Int) + 1) = ((i + 1 : Nat) : Int) := by rw [wrap64 (by omega) (by omega)]; omega
  have hk : x.kids[i]? = some x.kids[i] := List.getElem?_eq_getElem hi
  have hk0 : y.kids[i]? = some (y.kids[i]'(by omega)) := List.getElem?_eq_getElem _
  generalize x.kids[i] = c at hk
  generalize y.kids[i]'(by omega) = c0 at hk0
  have hcm := List.mem_of_getElem? hk
  have fin : ∀ (c' : T) (k : Nat), kIdxT x y i = some k → y.kids[k]? = some c' → ∀ r M', CmPost N ty cap (L ++ M) c c' r M' → r = true → ((∀ p ∈ M ++ M', Wf p.1 ∧ Wf p.2) ∧ (L ++ (M ++ M')).length + muP N ty (L ++ (M ++ M')) ≤ cap ∧ (∀ p ∈ M ++ M', LocPP N ty (· ∈ L ++ (M ++ M')) p) ∧ BehindT x y (i + 1) (L ++ (M ++ M'))) := by
    intro c' k hkx hq r M' hp hr
    obtain ⟨p1, p2, p3, p4⟩ := hp
    obtain ⟨p5, p6⟩ := p3 hr
    rw [List.append_assoc] at p2 p5
    refine ⟨fun p hp => ?_, p2, fun p hp => ?_, fun j d hj hd => ?_⟩
    · rcases List.mem_append.1 hp with hp | hp
      · exact hW p hp
      · exact p1 p hp
    · rcases List.mem_append.1 hp with hp | hp
      · obtain ⟨a, b, q1, q2, q3, q4⟩ := hM p hp
        exact ⟨a, b, q1, q2, q3, q4.mono fun z z' hz => by rw [← List.append_assoc]; exact List.mem_append.2 (.inl hz)⟩
      · obtain ⟨a, b, q1, q2, q3, q4⟩ := p6 p hp
        exact ⟨a, b, q1, q2, q3, q4.mono fun z z' hz => by rw [← List.append_assoc]; exact hz⟩
    · by_cases e : j = i
      · subst e
        rw [hk] at hd
        injection hd with hd
        subst hd
        exact ⟨k, c', hkx, hq, p5⟩
      · obtain ⟨k', d', q1, q2, q3⟩ := hBe j d (by omega) hd
        exact ⟨k', d', q1, q2, by rw [← List.append_assoc]; exact List.mem_append.2 (.inl q3)⟩
  have fal : ∀ (c' : T) (r : Bool) M', CmPost N ty cap (L ++ M) c c' r M' → (∀ p ∈ M ++ M', Wf p.1 ∧ Wf p.2) ∧ (L ++ (M ++ M')).length + muP N ty (L ++ (M ++ M')) ≤ cap := by
    intro c' r M' hp
    obtain ⟨p1, p2, _, _⟩ := hp
    rw [List.append_assoc] at p2
    refine ⟨fun p hp => ?_, p2⟩
    rcases List.mem_append.1 hp with hp | hp
    · exact hW p hp
    · exact p1 p hp
  by_cases hl : x.labels.length = 0
  · have hl0 : decide ((0 : Int) < (x.labels.length : Int)) = false := decide_eq_false (by omega)
    obtain ⟨k, hke⟩ : ∃ k, k = i := ⟨i, rfl⟩
    have hkx : kIdxT x y i = some k := by unfold kIdxT; rw [if_pos hl, hke]
    obtain ⟨c', hc'⟩ : ∃ c', c' = c0 := ⟨c0, rfl⟩
    have hq : y.kids[k]? = some c' := by rw [hke, hc']; exact hk0
    subst hc'
    obtain ⟨r, M', u', hr, hp⟩ := rec M u c c' hcm (List.mem_of_getElem? hq) hW hcap
    rw [T.data_eq c, T.data_eq c'] at hr
    unfold cmO at hr
    cases M' with
    | nil =>
      unfold cmR at hr
      cases r with
      | true =>
        refine .inl ⟨?s1, ?g1_1, M, u', ?g2_1, ?g3_1⟩
        case g1_1 =>
          unfold c65_l0 cmI bxO
          simp only [go_sem, hi', di, di2, hk, hk0, T.data_eq c, w5, hr, T.data_eq c', hl0]
          rfl
        case g2_1 =>
          unfold cmI bxO
          show _ = _
          kernel_rfl
        case g3_1 => have := fin c' k hkx hq true _ hp rfl; rw [List.append_nil] at this; exact this
      | false =>
        refine .inr ⟨?e2, ?g1_2, ?g2_2, .inr ⟨M, u', ?fr_2, ?ob_2, ?nx_2, ?g3_2, ?g4_2, ?g5_2, ?g6_2, ?g7_2, i, c, hk, ?g8_2⟩⟩
        case g1_2 =>
          unfold c65_l0 cmI bxO
          simp only [go_sem, hi', di, di2, hk, hk0, T.data_eq c, w5, hr, T.data_eq c', hl0]
          rfl
        case g2_2 => intro h; cases h
        case g3_2 => rfl
        case g4_2 => rfl
        case g5_2 =>
          show _ = _
          kernel_rfl
        case g6_2 => have := (fal c' false _ hp).1; rw [List.append_nil] at this; exact this
        case g7_2 => have := (fal c' false _ hp).2; rw [List.append_nil] at this; exact this
        case g8_2 =>
          intro k1 c1 h1 h2 hE
          rw [hkx] at h1
          injection h1 with h1
          subst h1
          rw [hq] at h2
          injection h2 with h2
          subst h2
          exact absurd (hp.2.2.2 hE) (by decide)
    | cons p0 M0 =>
      unfold cmR at hr
      cases r with
      | true =>
        refine .inl ⟨?s3, ?g1_3, M ++ (p0 :: M0), u', ?g2_3, ?g3_3⟩
        case g1_3 =>
          unfold c65_l0 cmI bxO
          simp only [go_sem, hi', di, di2, hk, hk0, T.data_eq c, w5, hr, T.data_eq c', hl0]
          rfl
        case g2_3 =>
          unfold cmI bxO
          rw [← List.append_assoc]
          show _ = _
          kernel_rfl
        case g3_3 => exact fin c' k hkx hq true _ hp rfl
      | false =>
        refine .inr ⟨?e4, ?g1_4, ?g2_4, .inr ⟨M ++ (p0 :: M0), u', ?fr_4, ?ob_4, ?nx_4, ?g3_4, ?g4_4, ?g5_4, ?g6_4, ?g7_4, i, c, hk, ?g8_4⟩⟩
        case g1_4 =>
          unfold c65_l0 cmI bxO
          simp only [go_sem, hi', di, di2, hk, hk0, T.data_eq c, w5, hr, T.data_eq c', hl0]
          rfl
        case g2_4 => intro h; cases h
        case g3_4 => rfl
        case g4_4 => rfl
        case g5_4 =>
          rw [← List.append_assoc]
          show _ = _
          kernel_rfl
        case g6_4 => exact (fal c' false _ hp).1
        case g7_4 => exact (fal c' false _ hp).2
        case g8_4 =>
          intro k1 c1 h1 h2 hE
          rw [hkx] at h1
          injection h1 with h1
          subst h1
          rw [hq] at h2
          injection h2 with h2
          subst h2
          exact absurd (hp.2.2.2 hE) (by decide)
  · have hlp : decide ((0 : Int) < (x.labels.length : Int)) = true := decide_eq_true (by omega)
    have hil : i < x.labels.length := by have := hxl hl; omega
    have dil : decide (i < x.labels.length) = true := decide_eq_true hil
    have hlb : x.labels[i]? = some x.labels[i] := List.getElem?_eq_getElem hil
    generalize x.labels[i] = lb at hlb
    obtain ⟨k, hki⟩ := idx_mem (hperm.mem_iff.1 (List.mem_of_getElem? hlb))
    have hkx : kIdxT x y i = some k := by unfold kIdxT; rw [if_neg hl, hlb]; exact hki
    have hkl : k < y.kids.length := by
      have h1 := (List.getElem?_eq_some_iff.1 (idx_get hki)).1
      have h2 := hperm.length_eq
      have h3 := hxl hl
      omega
    have hq : y.kids[k]? = some y.kids[k] := List.getElem?_eq_getElem hkl
    generalize y.kids[k] = c' at hq
    have hst := Unf.stay hy8
    have hlr := label_run hwy hst.1 lb k c' (by rw [hst.2]; exact hki) (by rw [hst.2]; exact hq)
    rw [T.data_eq y, T.data_eq c'] at hlr
    obtain ⟨r, M', u', hr, hp⟩ := rec M u c c' hcm (List.mem_of_getElem? hq) hW hcap
    rw [T.data_eq c, T.data_eq c'] at hr
    unfold cmO at hr
    cases M' with
    | nil =>
      unfold cmR at hr
      cases r with
      | true =>
        refine .inl ⟨?s5, ?g1_5, M, u', ?g2_5, ?g3_5⟩
        case g1_5 =>
          unfold c65_l0 cmI bxO
          simp only [go_sem, hi', di, di2, hk, hk0, T.data_eq c, w5, hr, T.data_eq c0, hlp, dil, hlb, hlr]
          rfl
        case g2_5 =>
          unfold cmI bxO
          show _ = _
          kernel_rfl
        case g3_5 => have := fin c' k hkx hq true _ hp rfl; rw [List.append_nil] at this; exact this
      | false =>
        refine .inr ⟨?e6, ?g1_6, ?g2_6, .inr ⟨M, u', ?fr_6, ?ob_6, ?nx_6, ?g3_6, ?g4_6, ?g5_6, ?g6_6, ?g7_6, i, c, hk, ?g8_6⟩⟩
        case g1_6 =>
          unfold c65_l0 cmI bxO
          simp only [go_sem, hi', di, di2, hk, hk0, T.data_eq c, w5, hr, T.data_eq c0, hlp, dil, hlb, hlr]
          rfl
        case g2_6 => intro h; cases h
        case g3_6 => rfl
        case g4_6 => rfl
        case g5_6 =>
          show _ = _
          kernel_rfl
        case g6_6 => have := (fal c' false _ hp).1; rw [List.append_nil] at this; exact this
        case g7_6 => have := (fal c' false _ hp).2; rw [List.append_nil] at this; exact this
        case g8_6 =>
          intro k1 c1 h1 h2 hE
          rw [hkx] at h1
          injection h1 with h1
          subst h1
          rw [hq] at h2
          injection h2 with h2
          subst h2
          exact absurd (hp.2.2.2 hE) (by decide)
    | cons p0 M0 =>
      unfold cmR at hr
      cases r with
      | true =>
        refine .inl ⟨?s7, ?g1_7, M ++ (p0 :: M0), u', ?g2_7, ?g3_7⟩
        case g1_7 =>
          unfold c65_l0 cmI bxO
          simp only [go_sem, hi', di, di2, hk, hk0, T.data_eq c, w5, hr, T.data_eq c0, hlp, dil, hlb, hlr]
          rfl
        case g2_7 =>
          unfold cmI bxO
          rw [← List.append_assoc]
          show _ = _
          kernel_rfl
        case g3_7 => exact fin c' k hkx hq true _ hp rfl
      | false =>
        refine .inr ⟨?e8, ?g1_8, ?g2_8, .inr ⟨M ++ (p0 :: M0), u', ?fr_8, ?ob_8, ?nx_8, ?g3_8, ?g4_8, ?g5_8, ?g6_8, ?g7_8, i, c, hk, ?g8_8⟩⟩
        case g1_8 =>
          unfold c65_l0 cmI bxO
          simp only [go_sem, hi', di, di2, hk, hk0, T.data_eq c, w5, hr, T.data_eq c0, hlp, dil, hlb, hlr]
          rfl
        case g2_8 => intro h; cases h
        case g3_8 => rfl
        case g4_8 => rfl
        case g5_8 =>
          rw [← List.append_assoc]
          show _ = _
          kernel_rfl
        case g6_8 => exact (fal c' false _ hp).1
        case g7_8 => exact (fal c' false _ hp).2
        case g8_8 =>
          intro k1 c1 h1 h2 hE
          rw [hkx] at h1
          injection h1 with h1
          subst h1
          rw [hq] at h2
          injection h2 with h2
          subst h2
          exact absurd (hp.2.2.2 hE) (by decide)
theorem cm_loop (cap : Nat) (x y : T) (L : List (T × T)) (hwx : Wf x) (hwy : Wf y) (hy8 : y.kind ≠ 8) (hlen : x.kids.length = y.kids.length) (hxl : x.labels.length ≠ 0 → x.kids.length = x.labels.length) (hperm : List.Perm x.labels y.labels) (hcap : L.length + muP N ty L ≤ cap) (u : Bool)
    (rec : ∀ (M : List (T × T)) (u : Bool) (c c' : T), c ∈ x.kids → c' ∈ y.kids → (∀ p ∈ M, Wf p.1 ∧ Wf p.2) → (L ++ M).length + muP N ty (L ++ M) ≤ cap → CmRuns N ty cap (L ++ M) u c c') :
    ∃ e, LW [2, 7, 8, 10] c65_l0 (cmI x y L u 0) = some e ∧ CmQ N ty cap x y L e := by
  refine loop_inv (Inv := CmInv N ty cap x y L) (n := x.kids.length) (fun i s hi hI => cm_step cap x y L hwx hwy hy8 hlen hxl hperm rec i s hi hI) (fun s hI => ?_) x.kids.length 0 _ (by omega) ⟨[], u, by rw [List.append_nil], (fun p hp => by cases hp), by rw [List.append_nil]; exact hcap, (fun p hp => by cases hp), fun j c hj => by omega⟩
  obtain ⟨M, u, rfl, h1, h2, h3, h4⟩ := hI
  refine ⟨?e, ?g1, ?g2, .inl ⟨M, u, ?fr, ?nx, ?g3, h1, h2, h3, h4⟩⟩
  case g1 =>
    unfold c65_l0 cmI bxO
    simp only [go_sem]
    rfl
  case g2 => intro h; cases h
  case g3 =>
    unfold cmI bxO
    rfl
end
end Go.Proofs.Ytijfioakpngdhaa

namespace Go.Proofs.Ytijfioakpngdhaa
open Go.V
set_option maxRecDepth 100000
set_option linter.unusedSimpArgs false
set_option linter.unusedVariables false

def cmIN (x y : T) (L : List (T × T)) (u : Bool) (i : Nat) : St := ⟨[(2, .ptr 0 0), (7, .ptr 2 0), (8, .ptr 5 0), (10, .d (.int .i64 i))],
  [(0, some (.box [.own 1])), (1, some (.arr 12 (L.map prD) u)), (2, some (bxO x 3 4)), (3, some (.arr 1 (x.labels.map .str) false)), (4, some (.arr 6 (x.kids.map T.data) false)), (5, some (bxO y 6 7)), (6, some (.arr 1 (y.labels.map .str) false)), (7, some (.arr 6 (y.kids.map T.data) false))], 8, 1, false⟩
section
variable {N : List Nd} {B : Int} {ty : Nat → T}
def CmInvN (N : List Nd) (ty : Nat → T) (cap : Nat) (x y : T) (L : List (T × T)) (i : Nat) (s : St) : Prop := ∃ M u, s = cmIN x y (L ++ M) u i ∧ (∀ p ∈ M, Wf p.1 ∧ Wf p.2) ∧ (L ++ M).length + muP N ty (L ++ M) ≤ cap ∧ (∀ p ∈ M, LocPP N ty (· ∈ L ++ M) p) ∧ BehindT x y i (L ++ M)
def CmQN (N : List Nd) (ty : Nat → T) (cap : Nat) (x y : T) (L : List (T × T)) (e : Out × St) : Prop :=
  (∃ M u fr nx, e = (.exit 0, ⟨fr, (cmIN x y (L ++ M) u 0).ob, nx, 1, false⟩) ∧ (∀ p ∈ M, Wf p.1 ∧ Wf p.2) ∧ (L ++ M).length + muP N ty (L ++ M) ≤ cap ∧ (∀ p ∈ M, LocPP N ty (· ∈ L ++ M) p) ∧ BehindT x y x.kids.length (L ++ M)) ∨
  (∃ M u fr ob nx, e = (.ret, ⟨fr, ob, nx, 1, false⟩) ∧ fget fr 6 = .d (.bool false) ∧ fin1 ⟨fr, ob, nx, 1, false⟩ [.d (.bool false)] = some (.d (.bool false), [(0, some (.box [.own 1])), (1, some (.arr 12 ((L ++ M).map prD) u))]) ∧ (∀ p ∈ M, Wf p.1 ∧ Wf p.2) ∧ (L ++ M).length + muP N ty (L ++ M) ≤ cap ∧
    ∃ (j : Nat) (c : T), x.kids[j]? = some c ∧ ∀ k c', kIdxT x y j = some k → y.kids[k]? = some c' → ¬ EqT c c')
theorem cm_stepN (cap : Nat) (x y : T) (L : List (T × T)) (hwx : Wf x) (hwy : Wf y) (hy8 : y.kind ≠ 8) (hlen : x.kids.length = y.kids.length) (hxl : x.labels.length ≠ 0 → x.kids.length = x.labels.length) (hperm : List.Perm x.labels y.labels)
    (rec : ∀ (M : List (T × T)) (u : Bool) (c c' : T), c ∈ x.kids → c' ∈ y.kids → (∀ p ∈ M, Wf p.1 ∧ Wf p.2) → (L ++ M).length + muP N ty (L ++ M) ≤ cap → CmRuns N ty cap (L ++ M) u c c') (i : Nat) (s : St) (hi : i < x.kids.length) (hI : CmInvN N ty cap x y L i s) :
    (∃ s', exec att RW LW c65_l0 s = some (.normal, s') ∧ CmInvN N ty cap x y L (i + 1) (norm [2, 7, 8, 10] s')) ∨ (∃ e, exec att RW LW c65_l0 s = some e ∧ e.1 ≠ .normal ∧ CmQN N ty cap x y L e) := by
  obtain ⟨M, u, rfl, hW, hcap, hM, hBe⟩ := hI
  have hlx := hwx.len
  have hi' : decide ((i : Int) < (x.kids.length : Int)) = true := decide_eq_true (by omega)
  have di : decide (i < x.kids.length) = true := decide_eq_true hi
  have di2 : decide (i < y.kids.length) = true := decide_eq_true (by omega)
  have w5 : IntKind.wrap .i64 ((i : Int) + 1) = ((i + 1 : Nat) : Int) := by rw [wrap64 (by omega) (by omega)]; omega
  have hk : x.kids[i]? = some x.kids[i] := List.getElem?_eq_getElem hi
  have hk0 : y.kids[i]? = some (y.kids[i]'(by omega)) := List.getElem?_eq_getElem _
  generalize x.kids[i] = c at hk
  generalize y.kids[i]'(by omega) = c0 at hk0
  have hcm := List.mem_of_getElem? hk
  have fin : ∀ (c' : T) (k : Nat), kIdxT x y i = some k → y.kids[k]? = some c' → ∀ r M', CmPost N ty cap (L ++ M) c c' r M' → r = true → ((∀ p ∈ M ++ M', Wf p.1 ∧ Wf p.2) ∧ (L ++ (M ++ M')).length + muP N ty (L ++ (M ++ M')) ≤ cap ∧ (∀ p ∈ M ++ M', LocPP N ty (· ∈ L ++ (M ++ M')) p) ∧ BehindT x y (i + 1) (L ++ (M ++ M'))) := by
    intro c' k hkx hq r M' hp hr
    obtain ⟨p1, p2, p3, p4⟩ := hp
    obtain ⟨p5, p6⟩ := p3 hr
    rw [List.append_assoc] at p2 p5
    refine ⟨fun p hp => ?_, p2, fun p hp => ?_, fun j d hj hd => ?_⟩
    · rcases List.mem_append.1 hp with hp | hp
      · exact hW p hp
      · exact p1 p hp
    · rcases List.mem_append.1 hp with hp | hp
      · obtain ⟨a, b, q1, q2, q3, q4⟩ := hM p hp
        exact ⟨a, b, q1, q2, q3, q4.mono fun z z' hz => by rw [← List.append_assoc]; exact List.mem_append.2 (.inl hz)⟩
      · obtain ⟨a, b, q1, q2, q3, q4⟩ := p6 p hp
        exact ⟨a, b, q1, q2, q3, q4.mono fun z z' hz => by rw [← List.append_assoc]; exact hz⟩
    · by_cases e : j = i
      · subst e
        rw [hk] at hd
        injection hd with hd
        subst hd
        exact ⟨k, c', hkx, hq, p5⟩
      · obtain ⟨k', d', q1, q2, q3⟩ := hBe j d (by omega) hd
        exact ⟨k', d', q1, q2, by rw [← List.append_assoc]; exact List.mem_append.2 (.inl q3)⟩
  have fal : ∀ (c' : T) (r : Bool) M', CmPost N ty cap (L ++ M) c c' r M' → (∀ p ∈ M ++ M', Wf p.1 ∧ Wf p.2) ∧ (L ++ (M ++ M')).length + muP N ty (L ++ (M ++ M')) ≤ cap := by
    intro c' r M' hp
    obtain ⟨p1, p2, _, _⟩ := hp
    rw [List.append_assoc] at p2
    refine ⟨fun p hp => ?_, p2⟩
    rcases List.mem_append.1 hp with hp | hp
    · exact hW p hp
    · exact p1 p hp
  by_cases hl : x.labels.length = 0
  · have hl0 : decide ((0 : Int) < (x.labels.length : Int)) = false := decide_eq_false (by omega)
    obtain ⟨k, hke⟩ : ∃ k, k = i := ⟨i, rfl⟩
    have hkx : kIdxT x y i = some k := by unfold kIdxT; rw [if_pos hl, hke]
    obtain ⟨c', hc'⟩ : ∃ c', c' = c0 := ⟨c0, rfl⟩
    have hq : y.kids[k]? = some c' := by rw [hke, hc']; exact hk0
    subst hc'
    obtain ⟨r, M', u', hr, hp⟩ := rec M u c c' hcm (List.mem_of_getElem? hq) hW hcap
    rw [T.data_eq c, T.data_eq c'] at hr
    unfold cmO at hr
    cases M' with
    | nil =>
      unfold cmR at hr
      cases r with
      | true =>
        refine .inl ⟨?s1, ?g1_1, M, u', ?g2_1, ?g3_1⟩
        case g1_1 =>
          unfold c65_l0 cmIN bxO
          simp only [go_sem, hi', di, di2, hk, hk0, T.data_eq c, w5, hr, T.data_eq c', hl0]
          rfl
        case g2_1 =>
          unfold cmIN bxO
          show _ = _
          kernel_rfl
        case g3_1 => have := fin c' k hkx hq true _ hp rfl; rw [List.append_nil] at this; exact this
      | false =>
        refine .inr ⟨?e2, ?g1_2, ?g2_2, .inr ⟨M, u', ?fr_2, ?ob_2, ?nx_2, ?g3_2, ?g4_2, ?g5_2, ?g6_2, ?g7_2, i, c, hk, ?g8_2⟩⟩
        case g1_2 =>
          unfold c65_l0 cmIN bxO
          simp only [go_sem, hi', di, di2, hk, hk0, T.data_eq c, w5, hr, T.data_eq c', hl0]
          rfl
        case g2_2 => intro h; cases h
        case g3_2 => rfl
        case g4_2 => rfl
        case g5_2 =>
          show _ = _
          kernel_rfl
        case g6_2 => have := (fal c' false _ hp).1; rw [List.append_nil] at this; exact this
        case g7_2 => have := (fal c' false _ hp).2; rw [List.append_nil] at this; exact this
        case g8_2 =>
          intro k1 c1 h1 h2 hE
          rw [hkx] at h1
          injection h1 with h1
          subst h1
          rw [hq] at h2
          injection h2 with h2
          subst h2
          exact absurd (hp.2.2.2 hE) (by decide)
    | cons p0 M0 =>
      unfold cmR at hr
      cases r with
      | true =>
        refine .inl ⟨?s3, ?g1_3, M ++ (p0 :: M0), u', ?g2_3, ?g3_3⟩
        case g1_3 =>
          unfold c65_l0 cmIN bxO
          simp only [go_sem, hi', di, di2, hk, hk0, T.data_eq c, w5, hr, T.data_eq c', hl0]
          rfl
        case g2_3 =>
          unfold cmIN bxO
          rw [← List.append_assoc]
          show _ = _
          kernel_rfl
        case g3_3 => exact fin c' k hkx hq true _ hp rfl
      | false =>
        refine .inr ⟨?e4, ?g1_4, ?g2_4, .inr ⟨M ++ (p0 :: M0), u', ?fr_4, ?ob_4, ?nx_4, ?g3_4, ?g4_4, ?g5_4, ?g6_4, ?g7_4, i, c, hk, ?g8_4⟩⟩
        case g1_4 =>
          unfold c65_l0 cmIN bxO
          simp only [go_sem, hi', di, di2, hk, hk0, T.data_eq c, w5, hr, T.data_eq c', hl0]
          rfl
        case g2_4 => intro h; cases h
        case g3_4 => rfl
        case g4_4 => rfl
        case g5_4 =>
          rw [← List.append_assoc]
          show _ = _
          kernel_rfl
        case g6_4 => exact (fal c' false _ hp).1
        case g7_4 => exact (fal c' false _ hp).2
        case g8_4 =>
          intro k1 c1 h1 h2 hE
          rw [hkx] at h1
          injection h1 with h1
          subst h1
          rw [hq] at h2
          injection h2 with h2
          subst h2
          exact absurd (hp.2.2.2 hE) (by decide)
  · have hlp : decide ((0 : Int) < (x.labels.length : Int)) = true := decide_eq_true (by omega)
    have hil : i < x.labels.length := by have := hxl hl; omega
    have dil : decide (i < x.labels.length) = true := decide_eq_true hil
    have hlb : x.labels[i]? = some x.labels[i] := List.getElem?_eq_getElem hil
    generalize x.labels[i] = lb at hlb
    obtain ⟨k, hki⟩ := idx_mem (hperm.mem_iff.1 (List.mem_of_getElem? hlb))
    have hkx : kIdxT x y i = some k := by unfold kIdxT; rw [if_neg hl, hlb]; exact hki
    have hkl : k < y.kids.length := by
      have h1 := (List.getElem?_eq_some_iff.1 (idx_get hki)).1
      have h2 := hperm.length_eq
      have h3 := hxl hl
      omega
    have hq : y.kids[k]? = some y.kids[k] := List.getElem?_eq_getElem hkl
    generalize y.kids[k] = c' at hq
    have hst := Unf.stay hy8
    have hlr := label_run hwy hst.1 lb k c' (by rw [hst.2]; exact hki) (by rw [hst.2]; exact hq)
    rw [T.data_eq y, T.data_eq c'] at hlr
    obtain ⟨r, M', u', hr, hp⟩ := rec M u c c' hcm (List.mem_of_getElem? hq) hW hcap
    rw [T.data_eq c, T.data_eq c'] at hr
    unfold cmO at hr
    cases M' with
    | nil =>
      unfold cmR at hr
      cases r with
      | true =>
        refine .inl ⟨?s5, ?g1_5, M, u', ?g2_5, ?g3_5⟩
        case g1_5 =>
          unfold c65_l0 cmIN bxO
          simp only [go_sem, hi', di, di2, hk, hk0, T.data_eq c, w5, hr, T.data_eq c0, hlp, dil, hlb, hlr]
          rfl
        case g2_5 =>
          unfold cmIN bxO
          show _ = _
          kernel_rfl
        case g3_5 => have := fin c' k hkx hq true _ hp rfl; rw [List.append_nil] at this; exact this
      | false =>
        refine .inr ⟨?e6, ?g1_6, ?g2_6, .inr ⟨M, u', ?fr_6, ?ob_6, ?nx_6, ?g3_6, ?g4_6, ?g5_6, ?g6_6, ?g7_6, i, c, hk, ?g8_6⟩⟩
        case g1_6 =>
          unfold c65_l0 cmIN bxO
          simp only [go_sem, hi', di, di2, hk, hk0, T.data_eq c, w5, hr, T.data_eq c0, hlp, dil, hlb, hlr]
          rfl
        case g2_6 => intro h; cases h
        case g3_6 => rfl
        case g4_6 => rfl
        case g5_6 =>
          show _ = _
          kernel_rfl
        case g6_6 => have := (fal c' false _ hp).1; rw [List.append_nil] at this; exact this
        case g7_6 => have := (fal c' false _ hp).2; rw [List.append_nil] at this; exact this
        case g8_6 =>
          intro k1 c1 h1 h2 hE
          rw [hkx] at h1
          injection h1 with h1
          subst h1
          rw [hq] at h2
          injection h2 with h2
          subst h2
          exact absurd (hp.2.2.2 hE) (by decide)
    | cons p0 M0 =>
      unfold cmR at hr
      cases r with
      | true =>
        refine .inl ⟨?s7, ?g1_7, M ++ (p0 :: M0), u', ?g2_7, ?g3_7⟩
        case g1_7 =>
          unfold c65_l0 cmIN bxO
          simp only [go_sem, hi', di, di2, hk, hk0, T.data_eq c, w5, hr, T.data_eq c0, hlp, dil, hlb, hlr]
          rfl
        case g2_7 =>
          unfold cmIN bxO
          rw [← List.append_assoc]
          show _ = _
          kernel_rfl
        case g3_7 => exact fin c' k hkx hq true _ hp rfl
      | false =>
        refine .inr ⟨?e8, ?g1_8, ?g2_8, .inr ⟨M ++ (p0 :: M0), u', ?fr_8, ?ob_8, ?nx_8, ?g3_8, ?g4_8, ?g5_8, ?g6_8, ?g7_8, i, c, hk, ?g8_8⟩⟩
        case g1_8 =>
          unfold c65_l0 cmIN bxO
          simp only [go_sem, hi', di, di2, hk, hk0, T.data_eq c, w5, hr, T.data_eq c0, hlp, dil, hlb, hlr]
          rfl
        case g2_8 => intro h; cases h
        case g3_8 => rfl
        case g4_8 => rfl
        case g5_8 =>
          rw [← List.append_assoc]
          show _ = _
          kernel_rfl
        case g6_8 => exact (fal c' false _ hp).1
        case g7_8 => exact (fal c' false _ hp).2
        case g8_8 =>
          intro k1 c1 h1 h2 hE
          rw [hkx] at h1
          injection h1 with h1
          subst h1
          rw [hq] at h2
          injection h2 with h2
          subst h2
          exact absurd (hp.2.2.2 hE) (by decide)
theorem cm_loopN (cap : Nat) (x y : T) (L : List (T × T)) (hwx : Wf x) (hwy : Wf y) (hy8 : y.kind ≠ 8) (hlen : x.kids.length = y.kids.length) (hxl : x.labels.length ≠ 0 → x.kids.length = x.labels.length) (hperm : List.Perm x.labels y.labels) (hcap : L.length + muP N ty L ≤ cap) (u : Bool)
    (rec : ∀ (M : List (T × T)) (u : Bool) (c c' : T), c ∈ x.kids → c' ∈ y.kids → (∀ p ∈ M, Wf p.1 ∧ Wf p.2) → (L ++ M).length + muP N ty (L ++ M) ≤ cap → CmRuns N ty cap (L ++ M) u c c') :
    ∃ e, LW [2, 7, 8, 10] c65_l0 (cmIN x y L u 0) = some e ∧ CmQN N ty cap x y L e := by
  refine loop_inv (Inv := CmInvN N ty cap x y L) (n := x.kids.length) (fun i s hi hI => cm_stepN cap x y L hwx hwy hy8 hlen hxl hperm rec i s hi hI) (fun s hI => ?_) x.kids.length 0 _ (by omega) ⟨[], u, by rw [List.append_nil], (fun p hp => by cases hp), by rw [List.append_nil]; exact hcap, (fun p hp => by cases hp), fun j c hj => by omega⟩
  obtain ⟨M, u, rfl, h1, h2, h3, h4⟩ := hI
  refine ⟨?e, ?g1, ?g2, .inl ⟨M, u, ?fr, ?nx, ?g3, h1, h2, h3, h4⟩⟩
  case g1 =>
    unfold c65_l0 cmIN bxO
    simp only [go_sem]
    rfl
  case g2 => intro h; cases h
  case g3 =>
    unfold cmIN bxO
    rfl
end
end Go.Proofs.Ytijfioakpngdhaa

namespace Go.Proofs.Ytijfioakpngdhaa
open Go.V
set_option maxRecDepth 100000
set_option linter.unusedSimpArgs false
set_option linter.unusedVariables false

section
variable {N : List Nd} {B : Int} {ty : Nat → T}
/-- what is known of two types of a graph, unfolded -/
structure Pair2 (N : List Nd) (ty : Nat → T) (a b x y : T) : Prop where
  ua : Unf a
  ub : Unf b
  ea : unfoldE a = x
  eb : unfoldE b = y
  wa : Wf a
  wb : Wf b
  wx : Wf x
  wy : Wf y
  x8 : x.kind ≠ 8
  y8 : y.kind ≠ 8
  xl : x.labels.length ≠ 0 → x.kids.length = x.labels.length
  nx : x.labels.Nodup
  ny : y.labels.Nodup
  leaf : x.kind = y.kind → actB x.kind = false → x.prio = y.prio
  len : x.kind = y.kind → x.labels.length = y.labels.length → x.kids.length = y.kids.length
theorem pair2 (hG : GOk N B) (hN : ∀ (i : Nat) (x : Nd), N[i]? = some x → NT ty x (ty i)) {a b : T} (ha : InG N ty a) (hb : InG N ty b) : Pair2 N ty a b (unfoldE a) (unfoldE b) := by
  obtain ⟨r, ga, r0, r1⟩ := ha
  obtain ⟨q, gb, q0, q1⟩ := hb
  obtain ⟨x, hx⟩ := get_of r0 r1
  obtain ⟨y, hy⟩ := get_of q0 q1
  have nx := hG.ns x (List.mem_of_getElem? hx)
  have ny := hG.ns y (List.mem_of_getElem? hy)
  obtain ⟨a1, a2, a3, a4, a5⟩ := gp_fields hN ga hx
  obtain ⟨b1, b2, b3, b4, b5⟩ := gp_fields hN gb hy
  refine ⟨ga.unf, gb.unf, rfl, rfl, ga.wf, gb.wf, unfold_wf ga.wf, unfold_wf gb.wf, ga.unf.kind, gb.unf.kind, fun h => ?_, by rw [a2]; exact nx.nodup, by rw [b2]; exact ny.nodup, fun h1 h2 => ?_, fun h1 h2 => ?_⟩
  · rw [a4, a2]; rw [a2] at h; exact ns_lab nx h
  · rw [a1] at h2
    have hn : ¬ (4 ≤ x.kind ∧ x.kind ≤ 7) := fun hh => by rw [actB_iff.2 hh] at h2; cases h2
    rw [a1, b1] at h1
    have := nx.low
    rw [a3, b3, if_neg hn, if_neg (by rw [← h1]; exact hn), (nx.leaf (by omega)).2.2, (ny.leaf (by omega)).2.2]
  · rw [a4, b4]
    exact ns_len nx ny (by rw [← a1, ← b1]; exact h1) (by rw [← a2, ← b2]; exact h2)
theorem eqt_needs {a b x y : T} (h : Pair2 N ty a b x y) (hE : EqT a b) : x.kind = y.kind ∧ x.prio = y.prio ∧ List.Perm x.labels y.labels := by
  obtain ⟨h1, h2, h3, h4, h5, h6⟩ := hE.loc
  rw [h.ea, h.eb] at h3 h4
  rw [h.ea, h.eb] at h5 h6
  refine ⟨h3, ?_, ?_⟩
  · cases hact : actB x.kind with
    | true => exact h5 hact
    | false => exact h.leaf h3 hact
  · by_cases h0 : x.labels.length = 0
    · rw [List.eq_nil_of_length_eq_zero h0, List.eq_nil_of_length_eq_zero (show y.labels.length = 0 by omega)]
    · have hsub : ∀ z ∈ x.labels, z ∈ y.labels := by
        intro z hz
        obtain ⟨i, hi⟩ := List.mem_iff_getElem?.1 hz
        have hil := (List.getElem?_eq_some_iff.1 hi).1
        have hkl := h.xl h0
        obtain ⟨k, c', k1, _, _⟩ := h6 i _ (List.getElem?_eq_getElem (show i < x.kids.length by omega))
        unfold kIdxT at k1
        rw [if_neg h0, hi] at k1
        exact List.mem_of_getElem? (idx_get k1)
      have hcov := nodup_cover h.nx hsub (by omega)
      exact (List.perm_ext_iff_of_nodup h.nx h.ny).2 fun z => ⟨hsub z, hcov z⟩
theorem loc_of {a b x y : T} (h : Pair2 N ty a b x y) (hk : x.kind = y.kind) (hp : x.prio = y.prio) (hl : List.Perm x.labels y.labels) {S : List (T × T)} (hB : BehindT x y x.kids.length S) : LocT a b fun c c' => pairT c c' ∈ S := by
  refine ⟨h.ua, h.ub, by rw [h.ea, h.eb, hk], by rw [h.ea, h.eb, hl.length_eq], fun _ => by rw [h.ea, h.eb, hp], fun i s hi => ?_⟩
  rw [h.ea] at hi ⊢
  rw [h.eb]
  exact hB i s (List.getElem?_eq_some_iff.1 hi).1 hi

theorem muP_le (N : List Nd) (ty : Nat → T) (L M : List (T × T)) : muP N ty (L ++ M) ≤ muP N ty L := by
  unfold muP
  refine List.countP_mono_left fun k _ h => ?_
  cases hb : memP k L with
  | false => rfl
  | true => rw [memP_iff.2 (List.mem_append.2 (.inl (memP_iff.1 hb)))] at h; exact h
theorem cm_run (hG : GOk N B) (hN : ∀ (i : Nat) (x : Nd), N[i]? = some x → NT ty x (ty i)) (cap : Nat) (hcap : cap ≤ 100000000) : ∀ (f : Nat) (a b : T) (L : List (T × T)) (u : Bool), InG N ty a → InG N ty b → (∀ p ∈ L, Wf p.1 ∧ Wf p.2) → L.length + muP N ty L ≤ cap → muP N ty L ≤ f → CmRuns N ty cap L u a b := by
  intro f
  induction f using Nat.strongRecOn with
  | _ f ih =>
  intro a b L u ga gb hwL hc hm
  have hP := pair2 hG hN ga gb
  have hpt : pairT a b = lowE (unfoldE a) (unfoldE b) := rfl
  have fail : RW 65 [.d a.data, .d b.data, .ptr 0 0] (cmO L u) = some (.d (.bool false), cmO L u) → ¬ ((unfoldE a).kind = (unfoldE b).kind ∧ (unfoldE a).prio = (unfoldE b).prio ∧ List.Perm (unfoldE a).labels (unfoldE b).labels) → CmRuns N ty cap L u a b :=
    fun h1 h2 => ⟨false, [], u, h1, (fun p hp => by cases hp), by rw [List.append_nil]; exact hc, (fun h => by cases h), fun hE => absurd (eqt_needs hP hE) h2⟩
  have hlp : (unfoldE a).kind = (unfoldE b).kind → (unfoldE a).prio = (unfoldE b).prio → pairT a b ∈ allP N ty := fun h1 h2 => by
    obtain ⟨r, g1, r0, r1⟩ := ga
    obtain ⟨q, g2, q0, q1⟩ := gb
    rw [pair_lt hG hN g1 g2 ⟨r0, r1⟩ ⟨q0, q1⟩ h1 h2]
    exact mem_allP (by omega) (by omega)
  have hkid1 : ∀ c ∈ (unfoldE a).kids, InG N ty c := fun c hc => by obtain ⟨i, hi⟩ := List.mem_iff_getElem?.1 hc; exact ga.kid hG hN hi
  have hkid2 : ∀ c ∈ (unfoldE b).kids, InG N ty c := fun c hc => by obtain ⟨i, hi⟩ := List.mem_iff_getElem?.1 hc; exact gb.kid hG hN hi
  have hua := unfold_run hP.wa hP.ua
  have hub := unfold_run hP.wb hP.ub
  rw [hpt] at hlp
  generalize unfoldE a = x at *
  generalize unfoldE b = y at *
  have s1 := sort_run x.labels hP.wx.labLen
  have s2 := sort_run y.labels hP.wy.labLen
  have tx := texts3_run (sortE x.labels) (sortE y.labels) (by rw [(sort_perm x.labels).length_eq]; exact hP.wx.labLen)
  have hsi := sort_eq_iff hP.wx.labLen hP.wy.labLen
  generalize sortE x.labels = sx at *
  generalize sortE y.labels = sy at *
  unfold tyV at hua hub
  rw [T.data_eq a] at hua
  rw [T.data_eq b] at hub
  by_cases c1 : x.kind = y.kind
  · have e1 := decide_eq_true c1
    by_cases c2 : x.prio = y.prio
    · have e2 := decide_eq_true c2
      by_cases c3 : List.Perm x.labels y.labels
      · rw [decide_eq_true (hsi.2 c3)] at tx
        have hlo := lower_run hP.wx hP.wy hP.x8
        have hin := hlp c1 c2
        have hwp : Wf (lowE x y).1 ∧ Wf (lowE x y).2 := ⟨raise_wf _ _ hP.wx, raise_wf _ _ hP.wy⟩
        generalize lowE x y = p at *
        unfold prV at hlo
        rw [T.data_eq x, T.data_eq y] at hlo
        have hse := seen_run L p (by omega) hwL
        unfold prD at hse
        have hb1 : decide ((L.length + 1) * 176 ≤ 140737488355328) = true := decide_eq_true (by omega)
        by_cases c4 : p ∈ L
        · rw [memP_iff.2 c4] at hse
          refine ⟨true, [], u, ?_, (fun p hp => by cases hp), by rw [List.append_nil]; exact hc, fun _ => ⟨by rw [hpt, List.append_nil]; exact c4, fun p hp => by cases hp⟩, fun _ => rfl⟩
          unfold cmO cmR
          rw [T.data_eq a, T.data_eq b]
          refine runW_fn rfl rfl ?_
          unfold runFn c65 prD
          simp only [go_sem, hua, hub, e1, e2, s1, s2, tx, hlo, hse]
          show _ = _
          kernel_rfl
        · rw [memP_false c4] at hse
          have hm1 := muP_lt hin c4
          have hLl : (L ++ [p]).length = L.length + 1 := by rw [List.length_append]; rfl
          obtain ⟨e, hl, hq⟩ := cm_loop (N := N) (ty := ty) cap x y (L ++ [p]) hP.wx hP.wy hP.y8 (hP.len c1 c3.length_eq) hP.xl c3 (by omega) u (fun M u c c' hcx hcy hwM hcM => by
            have h2 := muP_le N ty (L ++ [p]) M
            refine ih (f - 1) (by omega) c c' _ u (hkid1 c hcx) (hkid2 c' hcy) (fun q hq => ?_) hcM (by omega)
            rcases List.mem_append.1 hq with hq | hq
            · rcases List.mem_append.1 hq with hq | hq
              · exact hwL q hq
              · rw [List.mem_singleton.1 hq]; exact hwp
            · exact hwM q hq)
          have hl' := hl
          unfold cmI bxO at hl'
          rw [List.map_append] at hl'
          have hwM : ∀ M : List (T × T), (∀ q ∈ M, Wf q.1 ∧ Wf q.2) → ∀ q ∈ p :: M, Wf q.1 ∧ Wf q.2 := fun M hM q hq => by
            rcases List.mem_cons.1 hq with e | hq
            · rw [e]; exact hwp
            · exact hM q hq
          rcases hq with ⟨M, u', fr, nx, rfl, h1, h2, h3, h4⟩ | ⟨M, u', fr, ob, nx, rfl, h1, h2, h3, h4, h5⟩
          · rw [List.append_assoc] at h2 h3 h4
            refine ⟨true, p :: M, u', ?_, hwM M h1, h2, fun _ => ⟨by rw [hpt]; exact List.mem_append.2 (.inr List.mem_cons_self), fun q hq => ?_⟩, fun _ => rfl⟩
            · unfold cmO cmR
              rw [T.data_eq a, T.data_eq b]
              refine runW_fn rfl rfl ?_
              unfold runFn c65 prD
              simp only [go_sem, hua, hub, e1, e2, s1, s2, tx, hlo, hse, hb1]
              refine obind_mk (Eq.trans (by kernel_rfl) hl') ?_
              unfold cmI bxO
              simp only [go_sem]
              rw [List.append_assoc]
              show _ = _
              kernel_rfl
            · rcases List.mem_cons.1 hq with e | hq
              · rw [e]
                exact ⟨a, b, ga, gb, hpt.symm, loc_of hP c1 c2 c3 h4⟩
              · exact h3 q hq
          · rw [List.append_assoc] at h2 h4
            refine ⟨false, p :: M, u', ?_, hwM M h3, h4, (fun h => by cases h), fun hE => ?_⟩
            · unfold cmO cmR
              rw [T.data_eq a, T.data_eq b]
              refine runW_fn rfl rfl ?_
              unfold runFn c65 prD
              simp only [go_sem, hua, hub, e1, e2, s1, s2, tx, hlo, hse, hb1]
              refine obind_mk (Eq.trans (by kernel_rfl) hl') ?_
              simp only [go_sem, h1]
              exact h2
            · exfalso
              obtain ⟨j, c, hj, hno⟩ := h5
              obtain ⟨_, _, _, _, _, h6⟩ := hE.loc
              rw [hP.ea, hP.eb] at h6
              obtain ⟨k, c', k1, k2, k3⟩ := h6 j c hj
              exact hno k c' k1 k2 k3
      · rw [decide_eq_false (fun h => c3 (hsi.1 h))] at tx
        refine fail ?_ (fun h => c3 h.2.2)
        unfold cmO
        rw [T.data_eq a, T.data_eq b]
        refine runW_fn rfl rfl ?_
        unfold runFn c65
        simp only [go_sem, hua, hub, e1, e2, s1, s2, tx]
        show _ = _
        kernel_rfl
    · have e2 := decide_eq_false c2
      refine fail ?_ (fun h => c2 h.2.1)
      unfold cmO
      rw [T.data_eq a, T.data_eq b]
      refine runW_fn rfl rfl ?_
      unfold runFn c65
      simp only [go_sem, hua, hub, e1, e2]
      show _ = _
      kernel_rfl
  · have e1 := decide_eq_false c1
    refine fail ?_ (fun h => c1 h.1)
    unfold cmO
    rw [T.data_eq a, T.data_eq b]
    refine runW_fn rfl rfl ?_
    unfold runFn c65
    simp only [go_sem, hua, hub, e1]
    show _ = _
    kernel_rfl
theorem cm_top (hG : GOk N B) (hN : ∀ (i : Nat) (x : Nd), N[i]? = some x → NT ty x (ty i)) (cap : Nat) (hcap : cap ≤ 100000000) (a b : T) (ga : InG N ty a) (gb : InG N ty b) (hc : muP N ty [] ≤ cap) :
    ∃ (r : Bool) (M : List (T × T)) (u' : Bool), RW 65 [.d a.data, .d b.data, .ptr 0 0] [(0, some (.box [.nils 12]))] = some (.d (.bool r), [(0, some (.box [.own 1])), (1, some (.arr 12 (M.map prD) u'))]) ∧ (r = true → pairT a b ∈ M ∧ ∀ p ∈ M, LocPP N ty (· ∈ M) p) ∧ (EqT a b → r = true) := by
  have hP := pair2 hG hN ga gb
  have hpt : pairT a b = lowE (unfoldE a) (unfoldE b) := rfl
  have fail : RW 65 [.d a.data, .d b.data, .ptr 0 0] [(0, some (.box [.nils 12]))] = some (.d (.bool false), [(0, some (.box [.own 1])), (1, some (.arr 12 (([] : List (T × T)).map prD) true))]) → ¬ ((unfoldE a).kind = (unfoldE b).kind ∧ (unfoldE a).prio = (unfoldE b).prio ∧ List.Perm (unfoldE a).labels (unfoldE b).labels) →
      ∃ (r : Bool) (M : List (T × T)) (u' : Bool), RW 65 [.d a.data, .d b.data, .ptr 0 0] [(0, some (.box [.nils 12]))] = some (.d (.bool r), [(0, some (.box [.own 1])), (1, some (.arr 12 (M.map prD) u'))]) ∧ (r = true → pairT a b ∈ M ∧ ∀ p ∈ M, LocPP N ty (· ∈ M) p) ∧ (EqT a b → r = true) :=
    fun h1 h2 => ⟨false, [], true, h1, (fun h => by cases h), fun hE => absurd (eqt_needs hP hE) h2⟩
  have hlp : (unfoldE a).kind = (unfoldE b).kind → (unfoldE a).prio = (unfoldE b).prio → pairT a b ∈ allP N ty := fun h1 h2 => by
    obtain ⟨r, g1, r0, r1⟩ := ga
    obtain ⟨q, g2, q0, q1⟩ := gb
    rw [pair_lt hG hN g1 g2 ⟨r0, r1⟩ ⟨q0, q1⟩ h1 h2]
    exact mem_allP (by omega) (by omega)
  have hkid1 : ∀ c ∈ (unfoldE a).kids, InG N ty c := fun c hc => by obtain ⟨i, hi⟩ := List.mem_iff_getElem?.1 hc; exact ga.kid hG hN hi
  have hkid2 : ∀ c ∈ (unfoldE b).kids, InG N ty c := fun c hc => by obtain ⟨i, hi⟩ := List.mem_iff_getElem?.1 hc; exact gb.kid hG hN hi
  have hua := unfold_run hP.wa hP.ua
  have hub := unfold_run hP.wb hP.ub
  rw [hpt] at hlp
  generalize unfoldE a = x at *
  generalize unfoldE b = y at *
  have s1 := sort_run x.labels hP.wx.labLen
  have s2 := sort_run y.labels hP.wy.labLen
  have tx := texts3_run (sortE x.labels) (sortE y.labels) (by rw [(sort_perm x.labels).length_eq]; exact hP.wx.labLen)
  have hsi := sort_eq_iff hP.wx.labLen hP.wy.labLen
  generalize sortE x.labels = sx at *
  generalize sortE y.labels = sy at *
  unfold tyV at hua hub
  rw [T.data_eq a] at hua
  rw [T.data_eq b] at hub
  by_cases c1 : x.kind = y.kind
  · have e1 := decide_eq_true c1
    by_cases c2 : x.prio = y.prio
    · have e2 := decide_eq_true c2
      by_cases c3 : List.Perm x.labels y.labels
      · rw [decide_eq_true (hsi.2 c3)] at tx
        have hlo := lower_run hP.wx hP.wy hP.x8
        have hin := hlp c1 c2
        have hwp : Wf (lowE x y).1 ∧ Wf (lowE x y).2 := ⟨raise_wf _ _ hP.wx, raise_wf _ _ hP.wy⟩
        generalize lowE x y = p at *
        unfold prV at hlo
        rw [T.data_eq x, T.data_eq y] at hlo
        have hse := seen_run [] p (by simp) (fun q hq => by cases hq)
        rw [memP_false (by simp)] at hse
        unfold prD at hse
        rw [List.map_nil] at hse
        have hm1 := muP_lt hin (L := []) (by simp)
        rw [List.nil_append] at hm1
        obtain ⟨e, hl, hq⟩ := cm_loopN (N := N) (ty := ty) cap x y [p] hP.wx hP.wy hP.y8 (hP.len c1 c3.length_eq) hP.xl c3 (by rw [List.length_singleton]; omega) true (fun M u c c' hcx hcy hwM hcM => by
          refine cm_run hG hN cap hcap (muP N ty ([p] ++ M)) c c' _ u (hkid1 c hcx) (hkid2 c' hcy) (fun q hq => ?_) hcM (Nat.le_refl _)
          rcases List.mem_append.1 hq with hq | hq
          · rw [List.mem_singleton.1 hq]; exact hwp
          · exact hwM q hq)
        rcases hq with ⟨M, u', fr, nx, rfl, h1, h2, h3, h4⟩ | ⟨M, u', fr, ob, nx, rfl, h1, h2, h3, h4, h5⟩
        · refine ⟨true, p :: M, u', ?_, fun _ => ⟨by rw [hpt]; exact List.mem_cons_self, fun q hq => ?_⟩, fun _ => rfl⟩
          · rw [T.data_eq a, T.data_eq b]
            refine runW_fn rfl rfl ?_
            unfold runFn c65 prD
            simp only [go_sem, hua, hub, e1, e2, s1, s2, tx, hlo, hse]
            refine obind_mk (Eq.trans (by kernel_rfl) hl) ?_
            unfold cmIN bxO
            simp only [go_sem]
            show _ = _
            kernel_rfl
          · rcases List.mem_cons.1 hq with e | hq
            · rw [e]
              exact ⟨a, b, ga, gb, hpt.symm, loc_of hP c1 c2 c3 h4⟩
            · exact h3 q hq
        · refine ⟨false, p :: M, u', ?_, (fun h => by cases h), fun hE => ?_⟩
          · rw [T.data_eq a, T.data_eq b]
            refine runW_fn rfl rfl ?_
            unfold runFn c65 prD
            simp only [go_sem, hua, hub, e1, e2, s1, s2, tx, hlo, hse]
            refine obind_mk (Eq.trans (by kernel_rfl) hl) ?_
            simp only [go_sem, h1]
            exact h2
          · exfalso
            obtain ⟨j, c, hj, hno⟩ := h5
            obtain ⟨_, _, _, _, _, h6⟩ := hE.loc
            rw [hP.ea, hP.eb] at h6
            obtain ⟨k, c', k1, k2, k3⟩ := h6 j c hj
            exact hno k c' k1 k2 k3
      · rw [decide_eq_false (fun h => c3 (hsi.1 h))] at tx
        refine fail ?_ (fun h => c3 h.2.2)
        rw [T.data_eq a, T.data_eq b]
        refine runW_fn rfl rfl ?_
        unfold runFn c65
        simp only [go_sem, hua, hub, e1, e2, s1, s2, tx]
        show _ = _
        kernel_rfl
    · have e2 := decide_eq_false c2
      refine fail ?_ (fun h => c2 h.2.1)
      rw [T.data_eq a, T.data_eq b]
      refine runW_fn rfl rfl ?_
      unfold runFn c65
      simp only [go_sem, hua, hub, e1, e2]
      show _ = _
      kernel_rfl
  · have e1 := decide_eq_false c1
    refine fail ?_ (fun h => c1 h.1)
    rw [T.data_eq a, T.data_eq b]
    refine runW_fn rfl rfl ?_
    unfold runFn c65
    simp only [go_sem, hua, hub, e1]
    show _ = _
    kernel_rfl
/-- lowered pairs of types forget by how much both are raised -/
theorem low_raise (k : Int) (x y : T) (hx : actB x.kind = true) : lowE (raiseE k x) (raiseE k y) = lowE x y := by
  unfold lowE prioU
  rw [raise_kind, raise_prio, if_pos hx, if_pos hx, if_pos (actB_iff.1 hx), raise_raise, raise_raise]
  congr 1
  · exact raise_congr (wrap_mod k x.prio) x
  · exact raise_congr (wrap_mod k x.prio) y
noncomputable def eqTB (a b : T) : Bool := @decide (EqT a b) (Classical.propDecidable _)
theorem eqTB_iff {a b : T} : eqTB a b = true ↔ EqT a b := by unfold eqTB; exact @decide_eq_true_iff _ (Classical.propDecidable _)
theorem leaf_kids (hG : GOk N B) (hN : ∀ (i : Nat) (x : Nd), N[i]? = some x → NT ty x (ty i)) {a : T} (h : InG N ty a) (hact : actB (unfoldE a).kind = false) : (unfoldE a).kids = [] := by
  obtain ⟨r, q1, q2, q3⟩ := h
  obtain ⟨x, hx⟩ := get_of q2 q3
  obtain ⟨z1, z2, z3, z4, z5⟩ := gp_fields hN q1 hx
  have nx := hG.ns x (List.mem_of_getElem? hx)
  have := nx.low
  have hn : ¬ (4 ≤ x.kind ∧ x.kind ≤ 7) := fun hh => by rw [z1, actB_iff.2 hh] at hact; cases hact
  exact List.eq_nil_of_length_eq_zero (by rw [z4, (nx.leaf (by omega)).1]; rfl)
/-- the seen pairs are a relation of equal types -/
theorem seen_eqt (hG : GOk N B) (hN : ∀ (i : Nat) (x : Nd), N[i]? = some x → NT ty x (ty i)) {M : List (T × T)} (hM : ∀ p ∈ M, LocPP N ty (· ∈ M) p) {a b : T} (ga : InG N ty a) (gb : InG N ty b) (h : pairT a b ∈ M) : EqT a b := by
  refine ⟨fun a b => InG N ty a ∧ InG N ty b ∧ pairT a b ∈ M, fun a b hab => ?_, ga, gb, h⟩
  obtain ⟨ga, gb, h⟩ := hab
  obtain ⟨a0, b0, ga0, gb0, he, hl⟩ := hM _ h
  obtain ⟨l1, l2, l3, l4, l5, l6⟩ := hl
  have wa := ga.wf
  have wb := gb.wf
  have wa0 := ga0.wf
  have wb0 := gb0.wf
  have hP := pair2 hG hN ga gb
  have hP0 := pair2 hG hN ga0 gb0
  have e1 : raiseE (-prioU (unfoldE a)) (unfoldE a) = raiseE (-prioU (unfoldE a0)) (unfoldE a0) := congrArg Prod.fst he
  have e2 : raiseE (-prioU (unfoldE a)) (unfoldE b) = raiseE (-prioU (unfoldE a0)) (unfoldE b0) := congrArg Prod.snd he
  -- both are the others, raised by one number
  have back : ∀ (k l : Int) (x y : T), Wf x → Wf y → raiseE k x = raiseE l y → x = raiseE (l + -k) y := fun k l x y hx hy h => by
    have := congrArg (raiseE (-k)) h
    rw [raise_raise, raise_raise, Int.add_right_neg, raise_zero x hx] at this
    exact this
  have f1 := back _ _ _ _ (unfold_wf wa.1) (unfold_wf wa0.1) e1
  have f2 := back _ _ _ _ (unfold_wf wb.1) (unfold_wf wb0.1) e2
  generalize (-prioU (unfoldE a0) + -(-prioU (unfoldE a))) = δ at f1 f2
  refine ⟨wa.2, wb.2, by rw [f1, f2, raise_kind, raise_kind, l3], by rw [f1, f2, raise_labels, raise_labels, l4], fun hact => ?_, fun i s hs => ?_⟩
  · rw [f1, raise_kind] at hact
    rw [f1, f2, raise_prio, raise_prio, l5 hact, if_pos (actB_iff.1 hact), if_pos (by rw [← l3]; exact actB_iff.1 hact)]
  · have hs0 := hs
    rw [f1, raise_kids, List.getElem?_map] at hs
    cases hk : (unfoldE a0).kids[i]? with
    | none => rw [hk] at hs; cases hs
    | some s0 =>
      rw [hk] at hs
      injection hs with hs
      obtain ⟨k, t0, k1, k2, k3⟩ := l6 i s0 hk
      have kt : (unfoldE b).kids[k]? = some (raiseE δ t0) := by rw [f2, raise_kids, List.getElem?_map, k2]; rfl
      have gs := ga.kid hG hN hs0
      have gt := gb.kid hG hN kt
      have gs0 := ga0.kid hG hN hk
      have gt0 := gb0.kid hG hN k2
      refine ⟨k, raiseE δ t0, ?_, kt, gs, gt, ?_⟩
      · unfold kIdxT at k1 ⊢
        rw [f1, f2, raise_labels, raise_labels]; exact k1
      · subst hs
        unfold pairT at k3 ⊢
        rw [(gs0.wf.2.raise δ).2, (gt0.wf.2.raise δ).2]
        cases hact : actB (unfoldE s0).kind with
        | true => rw [low_raise δ _ _ hact]; exact k3
        | false =>
          obtain ⟨a1, b1, _, _, he1, hl1⟩ := hM _ k3
          have z1 : (unfoldE s0).kind = (unfoldE a1).kind := by
            have := congrArg (fun p : T × T => p.1.kind) he1
            unfold pairT lowE at this
            dsimp only at this
            rw [raise_kind, raise_kind] at this
            exact this
          have z2 : (unfoldE t0).kind = (unfoldE b1).kind := by
            have := congrArg (fun p : T × T => p.2.kind) he1
            unfold pairT lowE at this
            dsimp only at this
            rw [raise_kind, raise_kind] at this
            exact this
          have z3 : actB (unfoldE t0).kind = false := by rw [z2, ← hl1.2.2.1, ← z1]; exact hact
          rw [raise_leaf δ hact (leaf_kids hG hN gs0 hact), raise_leaf δ z3 (leaf_kids hG hN gt0 z3)]
          exact k3
/-- the reference's equality of types of a graph -/
theorem refEqual_run (hG : GOk N B) (hN : ∀ (i : Nat) (x : Nd), N[i]? = some x → NT ty x (ty i)) {a b : T} (ga : InG N ty a) (gb : InG N ty b) : RW 22 [.d a.data, .d b.data] [] = some (.d (.bool (eqTB a b)), []) := by
  have hsm := hG.small
  have hmu : muP N ty [] ≤ 100000000 := by
    have h1 : muP N ty [] ≤ (allP N ty).length := List.countP_le_length
    rw [len_allP] at h1
    have : N.length * N.length ≤ 10000 * 10000 := Nat.mul_le_mul hsm.1 hsm.1
    omega
  obtain ⟨r, M, u', hr, h1, h2⟩ := cm_top hG hN 100000000 (Nat.le_refl _) a b ga gb hmu
  have e : eqTB a b = r := by
    cases r with
    | true => exact eqTB_iff.2 (seen_eqt hG hN (h1 rfl).2 ga gb (h1 rfl).1)
    | false =>
      cases hb : eqTB a b with
      | false => rfl
      | true => exact absurd (h2 (eqTB_iff.1 hb)) (by decide)
  rw [e]
  rw [T.data_eq a, T.data_eq b] at hr ⊢
  refine runW_fn rfl rfl ?_
  unfold runFn c22
  simp only [go_sem, hr]
end
end Go.Proofs.Ytijfioakpngdhaa

namespace Go.Proofs.Ytijfioakpngdhaa
open Go.V
set_option maxRecDepth 100000
set_option linter.unusedSimpArgs false
set_option linter.unusedVariables false

theorem equalOffsets_run (a b : T) (k : Int) (hwa : Wf a) (hwb : Wf b) (hk : -32768 ≤ k ∧ k < 32768) : RW 4 [.d a.data, .d b.data, .d (.int .i16 k)] [] = some (.d (.bool true), []) := by
  have hw := awake10_run
  have sa := small_run a 20 hwa (by omega) (by omega)
  have sb := small_run b 20 hwb (by omega) (by omega)
  have da := T.data_eq a
  have db := T.data_eq b
  cases ha : smallB a 20 with
  | false =>
    rw [da] at sa ⊢
    rw [db]
    refine runW_fn rfl rfl ?_
    unfold runFn c4
    simp only [go_sem, hw, sa, ha]
  | true =>
    cases hb : smallB b 20 with
    | false =>
      rw [da] at sa ⊢
      rw [db] at sb ⊢
      refine runW_fn rfl rfl ?_
      unfold runFn c4
      simp only [go_sem, hw, sa, ha, sb, hb]
    | true =>
      have ra := small_rgt hwa (by omega) ha
      have rb := small_rgt hwb (by omega) hb
      have za := (small_out hwa (by omega) ha).1
      have zb := (small_out hwb (by omega) hb).1
      have hall : ∀ t ∈ [a, b], Rgt t := fun t h => by
        simp only [List.mem_cons, List.not_mem_nil, or_false] at h
        rcases h with h | h <;> subst h <;> assumption
      have hsz : T.sizeL [a, b] ≤ 1000 := by rw [T.sizeL, T.sizeL, T.sizeL]; omega
      have hfine := fineR hall (by simp; omega)
      have hg := graph_run _ hfine
      have hG := graph_okR (l := [a, b]) (by simp) hall hsz
      obtain ⟨ty, hT⟩ := graph_gtR _ hall
      have hlen := nodesL_len [a, b] 0 [] [] hfine.shp
      have hcl : cntL [a, b] = cnt a + cnt b := by rw [cntL, cntL, cntL]; omega
      have ca := ra.cnt
      have cb := rb.cnt
      have hrt : nextsL [a, b] 0 [] [] = [⟨0, 0⟩, ⟨(cnt a : Int), 0⟩] := by
        rw [nextsL, nextsL, nextsL, refE_topR ra, refE_topR rb, Int.zero_add]
      rw [hrt] at hg hT
      rw [hcl] at hlen
      generalize nodesL [a, b] 0 [] [] = N at *
      have gp0 := hT.ref 0 ⟨0, 0⟩ a rfl rfl
      have gp1 := hT.ref 1 ⟨(cnt a : Int), 0⟩ b rfl rfl
      obtain ⟨x, hx⟩ := get_of (N := N) (a := 0) (by omega) (by omega)
      obtain ⟨y, hy⟩ := get_of (N := N) (a := (cnt a : Int)) (by omega) (by omega)
      have nx := hG.ns x (List.mem_of_getElem? hx)
      have ny := hG.ns y (List.mem_of_getElem? hy)
      have px := nx.prio
      have py := ny.prio
      obtain ⟨a1, a2, a3, a4, a5⟩ := gp_fields hT.node gp0 hx
      obtain ⟨b1, b2, b3, b4, b5⟩ := gp_fields hT.node gp1 hy
      have l0 : (0 : Int) < N.length := by omega
      have l1 : (cnt a : Int) < N.length := by omega
      -- priorities
      have ux : (unfoldE a).prio = x.prio := by
        rw [a3]
        split
        · dsimp only; rw [Int.add_zero]; exact wrap64 (by omega) (by omega)
        · rfl
      have uy : (unfoldE b).prio = y.prio := by
        rw [b3]
        split
        · dsimp only; rw [Int.add_zero]; exact wrap64 (by omega) (by omega)
        · rfl
      have pex : prioE x ⟨0, 0⟩ = x.prio := by
        unfold prioE
        cases hact : actB x.kind with
        | true => rw [if_pos rfl]; dsimp only; rw [Int.add_zero]; exact wrap64 (by omega) (by omega)
        | false =>
          rw [if_neg (by decide)]
          have hn : ¬ (4 ≤ x.kind ∧ x.kind ≤ 7) := fun hh => by rw [actB_iff.2 hh] at hact; cases hact
          have := nx.low
          exact (nx.leaf (by omega)).2.2.symm
      have pey : prioE y ⟨(cnt a : Int), 0⟩ = y.prio := by
        unfold prioE
        cases hact : actB y.kind with
        | true => rw [if_pos rfl]; dsimp only; rw [Int.add_zero]; exact wrap64 (by omega) (by omega)
        | false =>
          rw [if_neg (by decide)]
          have hn : ¬ (4 ≤ y.kind ∧ y.kind ≤ 7) := fun hh => by rw [actB_iff.2 hh] at hact; cases hact
          have := ny.low
          exact (ny.leaf (by omega)).2.2.symm
      have ok : ∀ j : Int, -10000000 ≤ j → j ≤ 10000000 → RefOk N ⟨0, j⟩ ∧ RefOk N ⟨(cnt a : Int), j⟩ := fun j j1 j2 => ⟨⟨by dsimp only; omega, by dsimp only; omega, by dsimp only; omega⟩, ⟨by dsimp only; omega, by dsimp only; omega, by dsimp only; omega⟩⟩
      have k0 := (ok 0 (by omega) (by omega)).1
      have k1 := (ok 0 (by omega) (by omega)).2
      obtain ⟨d, hd⟩ : ∃ d, d = y.prio - x.prio := ⟨_, rfl⟩
      have o1 := offset_run hG hx hy k0 k1 d (by rw [pex, pey]; exact hd) (by omega) (by dsimp only; omega)
      obtain ⟨e, he⟩ : ∃ e, e = (if actB x.kind = true then k else 0) := ⟨_, rfl⟩
      have pek : prioE x ⟨0, 0 + k⟩ - prioE x ⟨0, 0⟩ = e := by
        rw [pex, he]
        unfold prioE
        cases hact : actB x.kind with
        | true => rw [if_pos rfl, if_pos rfl]; dsimp only; rw [Int.zero_add, wrap64 (by omega) (by omega)]; omega
        | false =>
          rw [if_neg (by decide), if_neg (by decide)]
          have hn : ¬ (4 ≤ x.kind ∧ x.kind ≤ 7) := fun hh => by rw [actB_iff.2 hh] at hact; cases hact
          have := nx.low
          rw [(nx.leaf (by omega)).2.2]; rfl
      have he2 : -32768 ≤ e ∧ e ≤ 32768 := by rw [he]; split <;> omega
      have o2 := offset_run hG hx hx k0 (ok (0 + k) (by omega) (by omega)).1 e pek.symm (by omega) (by dsimp only; omega)
      have hself : eqB N ⟨0, 0 + e⟩ ⟨0, 0 + k⟩ = true := by
        refine eqB_iff.2 ?_
        unfold key3 ndf
        rw [if_neg (by decide)]
        dsimp only
        have hr := eqp_refl hG false (a := 0) (by omega) l0
        cases hact : actB x.kind with
        | true => rw [hact, if_pos rfl] at he; rw [he, Int.sub_self]; exact hr
        | false =>
          have hn : ¬ (4 ≤ x.kind ∧ x.kind ≤ 7) := fun hh => by rw [actB_iff.2 hh] at hact; cases hact
          have := nx.low
          exact eqp_leaf hG hr hx (by omega)
      rw [hself, if_pos rfl] at o2
      -- the reference
      have hra := raise_run a d hwa
      have gpr := gp0.raise d
      have hwr := raise_wf d a hwa
      have hre := refEqual_run hG hT.node (a := raiseE d a) (b := b) ⟨_, gpr, by dsimp only; omega, by dsimp only; omega⟩ ⟨_, gp1, by dsimp only; omega, by dsimp only; omega⟩
      have hwant : eqTB (raiseE d a) b = eqB N ⟨0, 0 + d⟩ ⟨(cnt a : Int), 0⟩ := by
        have key : key3 false ⟨0, 0 + d⟩ ⟨(cnt a : Int), 0⟩ = (0, (cnt a : Int), (0 + d) - 0) := by unfold key3 ndf; rw [if_neg (by decide)]
        cases h1 : eqB N ⟨0, 0 + d⟩ ⟨(cnt a : Int), 0⟩ with
        | true =>
          have := eqB_iff.1 h1
          rw [key] at this
          exact eqTB_iff.2 (eqt_of_eqp hG hT.node gpr gp1 this)
        | false =>
          cases h2 : eqTB (raiseE d a) b with
          | false => rfl
          | true =>
            have h3 := eqp_of_eqt hG hT.node gpr gp1 (by dsimp only; omega) (by dsimp only; omega) (by dsimp only; omega) (eqTB_iff.1 h2)
            dsimp only at h3
            rw [← key] at h3
            rw [eqB_iff.2 h3] at h1
            exact h1
      rw [hwant] at hre
      -- if there is none, the number is 0
      have hleaf : x.kind ≤ 3 → eqB N ⟨0, 0 + d⟩ ⟨(cnt a : Int), 0⟩ = true → d = 0 := by
        intro h3 h4
        have h5 := eqB_iff.1 h4
        obtain ⟨x', y', q1, q2, q3, q4, q5, q6, q7, q8⟩ := h5.loc
        unfold key3 at q3 q4
        dsimp only at q3 q4
        rw [hx] at q3
        rw [hy] at q4
        injection q3 with q3
        injection q4 with q4
        subst q3; subst q4
        rw [hd, (nx.leaf h3).2.2, (ny.leaf (by omega)).2.2]; rfl
      have hua := unfold_run hwa gp0.unf
      have hub := unfold_run hwb gp1.unf
      generalize unfoldE a = u at *
      generalize unfoldE b = v at *
      generalize raiseE d a = ar at *
      generalize eqB N ⟨0, 0 + d⟩ ⟨(cnt a : Int), 0⟩ = z at *
      have wd : IntKind.wrap .i64 (v.prio - u.prio) = d := by rw [uy, ux, wrap64 (by omega) (by omega), hd]
      have wk : IntKind.wrap .i64 k = k := wrap64 (by omega) (by omega)
      have wk2 : IntKind.wrap .i64 (0 + k) = 0 + k := wrap64 (by omega) (by omega)
      unfold tyV at hua hub hra
      rw [da] at sa hua hra ⊢
      rw [db] at sb hub hre ⊢
      rw [T.data_eq ar] at hre
      rw [Rf.data_eq, Rf.data_eq] at o1 o2
      rw [List.map_cons, List.map_cons, List.map_nil, da, db] at hg
      refine runW_fn rfl rfl ?_
      unfold runFn c4
      by_cases h3 : x.kind ≤ 3
      · have du : decide (u.kind ≤ 3) = true := decide_eq_true (by omega)
        have hna : actB x.kind = false := by
          cases hact : actB x.kind with
          | false => rfl
          | true => have := actB_iff.1 hact; omega
        rw [hna, if_neg (by decide)] at he
        subst he
        cases z with
        | true =>
          have h0 := hleaf h3 rfl
          rw [if_pos rfl, h0] at o1
          rw [h0] at wd hra
          simp only [go_sem, hw, sa, ha, sb, hb, hg, Rf.data_eq, o1, o2, hua, hub, hra, hre, wd, wk, wk2, du]
        | false =>
          rw [if_neg (by decide)] at o1
          simp only [go_sem, hw, sa, ha, sb, hb, hg, Rf.data_eq, o1, o2, hua, hub, hra, hre, wd, wk, wk2, du]
      · have du : decide (u.kind ≤ 3) = false := decide_eq_false (by omega)
        have hac : actB x.kind = true := actB_iff.2 (by have := nx.low; omega)
        rw [hac, if_pos rfl] at he
        subst he
        cases z with
        | true =>
          rw [if_pos rfl] at o1
          simp only [go_sem, hw, sa, ha, sb, hb, hg, Rf.data_eq, o1, o2, hua, hub, hra, hre, wd, wk, wk2, du]
        | false =>
          rw [if_neg (by decide)] at o1
          simp only [go_sem, hw, sa, ha, sb, hb, hg, Rf.data_eq, o1, o2, hua, hub, hra, hre, wd, wk, wk2, du]
end Go.Proofs.Ytijfioakpngdhaa
