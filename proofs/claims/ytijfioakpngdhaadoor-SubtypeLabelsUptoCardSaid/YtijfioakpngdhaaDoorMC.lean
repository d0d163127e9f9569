/- The value machine and the program's memory: calls, the parts. -/
import Derived.Test.YtijfioakpngdhaaDoorMB
import Derived.Orders
set_option linter.unusedVariables false
set_option linter.unusedSimpArgs false
namespace Go.V

theorem Good.blk {w : World} {g : Gh} {ob : Objs} {U : Nat → Prop} (hg : Good w g ob U) {o b : Nat} {y : AObj} (ho : oget ob o = some y) (hbl : g.bl o = some b) : b < w.heap.size := by
  have := hg.rep o y ho
  rcases Nat.lt_or_ge b w.heap.size with h1 | h1
  · exact h1
  · exfalso
    have hnone : w.heap[b]? = none := Array.getElem?_eq_none h1
    cases y with
    | box cs => obtain ⟨b', t, vs, e1, e2, _⟩ := this; rw [show (cx w g ob).bl o = g.bl o from rfl, hbl] at e1; cases e1; rw [show (cx w g ob).w = w from rfl, hnone] at e2; cases e2
    | arr sz xs u =>
      rcases this with ⟨e1, _⟩ | ⟨b', arr, t, e1, e2, _⟩
      · rw [show (cx w g ob).bl o = g.bl o from rfl, hbl] at e1; cases e1
      · rw [show (cx w g ob).bl o = g.bl o from rfl, hbl] at e1; cases e1; rw [show (cx w g ob).w = w from rfl, hnone] at e2; cases e2
    | map es => obtain ⟨b', en, cl, e1, e2, _⟩ := this; rw [show (cx w g ob).bl o = g.bl o from rfl, hbl] at e1; cases e1; rw [show (cx w g ob).w = w from rfl, hnone] at e2; cases e2

/-! ### values without memory of slices -/
mutual
theorem DRep.flat {w w' : World} {S S' : Nat → Nat → Prop} : ∀ (x : Data) (v : Value), x.flat = true → DRep w S x v → DRep w' S' x v
  | .int _ _, _, _, hr => hr
  | .bool _, _, _, hr => hr
  | .str _, _, _, hr => hr
  | .sl _ _, _, h, _ => by cases h
  | .agg cs, v, h, hr => by
    obtain ⟨vs, rfl, h1, hv⟩ := hr
    exact ⟨vs, rfl, h1, DReps.flat cs vs h hv⟩
  | .nptr, _, _, hr => hr
  | .nmap, _, _, hr => hr
  | .nfunc, _, _, hr => hr
  | .niface, _, _, hr => hr
theorem DReps.flat {w w' : World} {S S' : Nat → Nat → Prop} : ∀ (cs : List Data) (vs : List Value), Data.flat.flatL cs = true → DReps w S cs vs → DReps w' S' cs vs
  | [], _, _, hr => hr
  | c :: cs, vs, h, hr => by
    obtain ⟨v, vs', rfl, h1, h2⟩ := hr
    unfold Data.flat.flatL at h
    simp only [Bool.and_eq_true] at h
    exact ⟨v, vs', rfl, DRep.flat c v h.1 h1, DReps.flat cs vs' h.2 h2⟩
end

/-- the same names, other data -/
def Cx.forget (c : Cx) : Cx := { c with S := fun _ _ => False }

mutual
theorem VRep.flat {c : Cx} : ∀ (a : AV) (v : Value), a.flat = true → VRep c a v → VRep c.forget a v
  | .any, _, _, _ => trivial
  | .d x, v, h, hr => DRep.flat x v h hr
  | .agg cs, v, h, hr => by
    obtain ⟨vs, rfl, h1, hv⟩ := hr
    exact ⟨vs, rfl, h1, VReps.flat cs vs h hv⟩
  | .tup cs, v, h, hr => by
    obtain ⟨vs, rfl, hv⟩ := hr
    exact ⟨vs, rfl, VReps.flat cs vs h hv⟩
  | .nils _, _, _, hr => hr
  | .lim _ _, _, h, _ => by cases h
  | .nn _ _ _, _, h, _ => by cases h
  | .own _, _, _, hr => hr
  | .ptr _ _, _, _, hr => hr
  | .eptr _, _, h, _ => by cases h
  | .optr _ _ _, _, _, hr => hr
  | .clos f cs, v, h, hr => by
    obtain ⟨vs, rfl, hv⟩ := hr
    exact ⟨vs, rfl, VReps.flat cs vs h hv⟩
  | .mref _, _, _, hr => hr
  | .gptr _ _, _, _, hr => hr
theorem VReps.flat {c : Cx} : ∀ (l : List AV) (vs : List Value), AV.flat.flatL l = true → VReps c l vs → VReps c.forget l vs
  | [], _, _, hr => hr
  | a :: l, vs, h, hr => by
    obtain ⟨v, vs', rfl, h1, h2⟩ := hr
    unfold AV.flat.flatL at h
    simp only [Bool.and_eq_true] at h
    exact ⟨v, vs', rfl, VRep.flat a v h.1 h1, VReps.flat l vs' h.2 h2⟩
end

theorem InArr.flat {c : Cx} {sz : Nat} {arr : Array Value} : ∀ (off : Nat) (xs : List Data), Data.flat.flatL xs = true → InArr c sz arr off xs → InArr c.forget sz arr off xs
  | _, [], _, _ => trivial
  | off, x :: xs, h, hr => by
    obtain ⟨⟨v, h1, h2, h3⟩, h4⟩ := hr
    unfold Data.flat.flatL at h
    simp only [Bool.and_eq_true] at h
    exact ⟨⟨v, DRep.flat x v h.1 h1, h2, h3⟩, InArr.flat (off + sz) xs h.2 h4⟩
theorem MapRep.flat {c : Cx} : ∀ (l : List (Data × Data)) (es : List MapEntry), flatEs l = true → MapRep c l es → MapRep c.forget l es
  | [], _, _, hr => hr
  | (k, x) :: l, es, h, hr => by
    obtain ⟨e, es', rfl, h1, h2, h3⟩ := hr
    unfold flatEs at h
    simp only [Bool.and_eq_true] at h
    exact ⟨e, es', rfl, DRep.flat k _ h.1.1 h1, DRep.flat x _ h.1.2 h2, MapRep.flat l es' h.2 h3⟩
theorem ObRep.flat {c : Cx} {o : Nat} {x : AObj} (h : x.flat = true) (hr : ObRep c o x) : ObRep c.forget o x := by
  cases x with
  | box cs =>
    obtain ⟨b, t, vs, h1, h2, h0, h3⟩ := hr
    exact ⟨b, t, vs, h1, h2, h0, VReps.flat cs vs h h3⟩
  | arr sz xs u =>
    rcases hr with ⟨h1, h2⟩ | ⟨b, arr, t, h1, h2, h3, h4, h5, h6⟩
    · exact .inl ⟨h1, h2⟩
    · exact .inr ⟨b, arr, t, h1, h2, h3, h4, h5, InArr.flat 0 xs h h6⟩
  | map es =>
    obtain ⟨b, entries, clock, h1, h2, h3⟩ := hr
    exact ⟨b, entries, clock, h1, h2, MapRep.flat es _ h h3⟩
theorem flatObs_get : ∀ {l : Objs} {o : Nat} {x : AObj}, flatObs l = true → oget l o = some x → x.flat = true
  | (k, v) :: l, o, x, h, hx => by
    rw [oget_cons] at hx
    cases v with
    | none =>
      by_cases e : k = o
      · rw [if_pos e] at hx; cases hx
      · rw [if_neg e] at hx; exact flatObs_get (show flatObs l = true from h) hx
    | some y =>
      have h' : (y.flat && flatObs l) = true := h
      simp only [Bool.and_eq_true] at h'
      by_cases e : k = o
      · rw [if_pos e] at hx; injection hx with hx; subst hx; exact h'.1
      · rw [if_neg e] at hx; exact flatObs_get h'.2 hx

/-! ### the way back -/
theorem fitsW_get {m : Nat} : ∀ {l : Objs} {j : Nat} {x : AObj}, fitsW m l = true → oget l j = some x → j < m + callW
  | (k, v) :: l, j, x, h, hx => by
    unfold fitsW at h
    simp only [Bool.and_eq_true] at h
    rw [oget_cons] at hx
    by_cases e : k = j
    · subst e
      have := h.1
      exact Nat.le_of_ble_eq_true this
    · rw [if_neg e] at hx; exact fitsW_get h.2 hx

theorem locals_get {m base : Nat} {back : Nat → Option Nat} {rest : Objs} : ∀ (l : Objs) (i : Nat), base ≤ i → oget (localsUpd m base back l ++ rest) i = if (m + (i - base)) ∈ keysOf l then (oget l (m + (i - base))).map (AObj.ren back) else oget rest i
  | [], i, hi => by simp [localsUpd, keysOf]
  | (k, v) :: l, i, hi => by
    unfold localsUpd
    have ih := locals_get (m := m) (back := back) (rest := rest) l i hi
    cases hb : Nat.ble m k with
    | true =>
      have hk := Nat.le_of_ble_eq_true hb
      show oget ((base + (k - m), v.map (AObj.ren back)) :: (localsUpd m base back l ++ rest)) i = _
      rw [oget_cons, oget_cons, ih]
      by_cases e : k = m + (i - base)
      · rw [if_pos (by omega), if_pos e, if_pos (by simp [keysOf, e])]
      · rw [if_neg (by omega), if_neg e]
        simp only [keysOf, List.mem_cons, Ne.symm e, false_or]
    | false =>
      have hk : k < m := by
        rcases Nat.lt_or_ge k m with q | q
        · exact q
        · rw [Nat.ble_eq_true_of_le q] at hb; cases hb
      show oget (localsUpd m base back l ++ rest) i = _
      have e : k ≠ m + (i - base) := by omega
      rw [oget_cons, if_neg e, ih]
      simp only [keysOf, List.mem_cons, Ne.symm e, false_or]
theorem locals_low {m base : Nat} {back : Nat → Option Nat} {rest : Objs} : ∀ (l : Objs) (i : Nat), i < base → oget (localsUpd m base back l ++ rest) i = oget rest i
  | [], i, hi => rfl
  | (k, v) :: l, i, hi => by
    unfold localsUpd
    cases hb : Nat.ble m k with
    | true =>
      show oget ((base + (k - m), v.map (AObj.ren back)) :: (localsUpd m base back l ++ rest)) i = _
      rw [oget_cons, if_neg (by omega), locals_low l i hi]
    | false => exact locals_low l i hi

theorem idxOf_cons (o i : Nat) (l : List Nat) : idxOf i (o :: l) = if o = i then some 0 else (idxOf i l).map (· + 1) := by
  conv => lhs; unfold idxOf
  by_cases e : o = i
  · subst e; rw [if_pos rfl, Nat.beq_refl]
  · rw [if_neg e]
    cases hb : Nat.beq o i with
    | false => rfl
    | true => exact absurd (Nat.eq_of_beq_eq_true hb) e

theorem imports_get {back : Nat → Option Nat} {ob' rest : Objs} : ∀ (l : List Nat) (j i : Nat), oget (importsUpd back ob' j l ++ rest) i = match idxOf i l with | some k => (oget ob' (j + k)).map (AObj.ren back) | none => oget rest i
  | [], j, i => rfl
  | o :: l, j, i => by
    show oget ((o, (oget ob' j).map (AObj.ren back)) :: (importsUpd back ob' (j + 1) l ++ rest)) i = _
    rw [oget_cons, imports_get l (j + 1) i, idxOf_cons]
    by_cases e : o = i
    · rw [if_pos e, if_pos e]; rfl
    · rw [if_neg e, if_neg e]
      cases idxOf i l with
      | none => rfl
      | some k => show (oget ob' (j + 1 + k)).map _ = (oget ob' (j + (k + 1))).map _; rw [show j + 1 + k = j + (k + 1) by omega]
end Go.V

set_option linter.unusedVariables false
set_option linter.unusedSimpArgs false
namespace Go.V

/-- what a callee owes: names 0 .. m - 1 came in -/
def Gives (w : World) (g : Gh) (ob : Objs) (m : Nat) (ro : Bool) (r : AV × Objs) (v : Value) (w' : World) : Prop :=
  ∃ g', Good w' g' r.2 (fun _ => True) ∧ VRep (cx w' g' r.2) r.1 v ∧ Step w g ob w' g' r.2 (· < m) (fun o => ro = false ∨ m ≤ o) ∧ (ro = true → Shape m ob r.2)

def CallOK (gl : GlT) (P : Program) (ro : Bool) (f : Nat) (args : List AV) (ob : Objs) (r : AV × Objs) : Prop :=
  ∀ (w : World) (g : Gh) (vals : List Value), Good w g ob (· < ob.length) → VReps (cx w g ob) args vals → NamesIn (· < ob.length) (namesL args) → GlobOk gl w (cx w g ob).S →
    Calls P f vals.toArray w fun e w' => ∃ v, e = .returned v ∧ Gives w g ob ob.length ro r v w'

/-- where the callee's cells may lie -/
def alIn (w : World) (g : Gh) (ob : Objs) (names : List Nat) (b off : Nat) : Prop :=
  (cx w g ob).S b off ∨ w.heap.size ≤ b ∨ ∃ o, o ∈ names ∧ oget ob o ≠ none ∧ g.bl o = some b

theorem alIn_al {w : World} {g : Gh} {ob : Objs} {U : Nat → Prop} {names : List Nat} (hg : Good w g ob U) {b off : Nat} (h : alIn w g ob names b off) : g.al b off := by
  rcases h with h | h | ⟨o, _, h1, h2⟩
  · exact h.1
  · exact hg.fresh b off h
  · obtain ⟨x, hx⟩ := Option.ne_none_iff_exists'.1 h1
    exact hg.own o x b hx h2 off

def inOf (names : List Nat) (j : Nat) : Option Nat := names[j]?

theorem names_in {ob : Objs} {names : List Nat} (hn : names.Nodup) : Names ob (subObjs ob (fun o => idxOf o names) 0 names) (fun o => idxOf o names) (inOf names) := by
  refine ⟨fun j x' hx' => ?_, fun o j h => idxOf_get h, fun j j' o h h' => get_inj hn h h'⟩
  rw [subObjs_get, if_pos (Nat.zero_le j), Nat.sub_zero] at hx'
  cases hj : names[j]? with
  | none => rw [hj] at hx'; cases hx'
  | some o =>
    rw [hj] at hx'
    obtain ⟨x, h1, h2⟩ := Option.map_eq_some_iff.1 (show (oget ob o).map (AObj.ren (fun o => idxOf o names)) = some x' from hx')
    exact ⟨o, x, hj, h1, h2.symm⟩

theorem subObjs_length (ob : Objs) (ρ : Nat → Option Nat) : ∀ (l : List Nat) (i : Nat), (subObjs ob ρ i l).length = l.length
  | [], _ => rfl
  | o :: l, i => by show (subObjs ob ρ (i + 1) l).length + 1 = _; rw [subObjs_length ob ρ l (i + 1)]; rfl

/-- into a call -/
theorem call_in {w : World} {g : Gh} {ob : Objs} {U : Nat → Prop} {names : List Nat} (hg : Good w g ob U) (hn : names.Nodup) (hs : ∀ o ∈ names, oget ob o ≠ none) :
    Good w (pull g (inOf names) (alIn w g ob names)) (subObjs ob (fun o => idxOf o names) 0 names) (· < names.length) ∧
    RenOk (cx w g ob) (cx w (pull g (inOf names) (alIn w g ob names)) (subObjs ob (fun o => idxOf o names) 0 names)) (fun o => idxOf o names) := by
  have hN := names_in (ob := ob) hn
  refine ⟨hN.good hg (fun b off h => .inl h) (fun b off h => .inr (.inl h)) (fun j o b hj hx hb off => ?_) (fun j x' hx' => ?_), hN.renOk (fun b off h => .inl h)⟩
  · exact .inr (.inr ⟨o, List.mem_of_getElem? hj, hs o (List.mem_of_getElem? hj), hb⟩)
  · obtain ⟨o, x, h1, h2, rfl⟩ := hN.ob j x' hx'
    refine ⟨(List.getElem?_eq_some_iff.1 h1).1, fun q hq => ?_⟩
    obtain ⟨o', _, h3⟩ := AObj.ren_names x q hq
    exact (List.getElem?_eq_some_iff.1 (idxOf_get h3)).1

/-- the caller's ghosts after a call -/
def after (g gs : Gh) (m base : Nat) : Gh := ⟨fun i => if base ≤ i ∧ i < base + callW then gs.bl (m + (i - base)) else g.bl i, fun i => if base ≤ i ∧ i < base + callW then gs.cp (m + (i - base)) else g.cp i, g.al⟩
end Go.V

set_option linter.unusedVariables false
set_option linter.unusedSimpArgs false
namespace Go.V

/-- the facts at a call's return -/
structure Ret (w : World) (g : Gh) (ob ob1 ob2 : Objs) (U : Nat → Prop) (names : List Nat) (base : Nat) (ro : Bool) (w' : World) (gs' : Gh) (r2 ob' : Objs) : Prop where
  good : Good w g ob U
  sh1 : Shares ob ob1
  sh2 : ob2 = ob1 ∨ ob2 = ob
  below : ∀ n, U n → ¬(base ≤ n ∧ n < base + callW)
  nodup : names.Nodup
  mem : ∀ o ∈ names, oget ob1 o ≠ none
  goodS : Good w' gs' r2 (fun _ => True)
  step : Step w (pull g (inOf names) (alIn w g ob1 names)) (subObjs ob1 (fun o => idxOf o names) 0 names) w' gs' r2 (· < names.length) (fun o => ro = false ∨ names.length ≤ o)
  shape : ro = true → Shape names.length (subObjs ob1 (fun o => idxOf o names) 0 names) r2
  get : ∀ i x', oget ob' i = some x' → (∃ j x, backOf names base j = some i ∧ oget r2 j = some x ∧ x' = x.ren (backOf names base) ∧ (names.length ≤ j ∨ ro = false)) ∨ (oget ob2 i = some x' ∧ (ro = true ∨ i ∉ names))

section
variable {w w' : World} {g gs' : Gh} {ob ob1 ob2 r2 ob' : Objs} {U : Nat → Prop} {names : List Nat} {base : Nat} {ro : Bool}

theorem backOf_low {j : Nat} (h : j < names.length) : backOf names base j = names[j]? := by
  unfold backOf
  cases hb : Nat.ble names.length j with
  | true => have := Nat.le_of_ble_eq_true hb; omega
  | false => rfl
theorem backOf_high {j i : Nat} (h : names.length ≤ j) (hb : backOf names base j = some i) : i = base + (j - names.length) ∧ j < names.length + callW := by
  unfold backOf at hb
  rw [Nat.ble_eq_true_of_le h] at hb
  dsimp only at hb
  cases hc : Nat.blt (j - names.length) callW with
  | true =>
    rw [hc] at hb
    injection hb with hb
    have : j - names.length < callW := Nat.le_of_ble_eq_true hc
    exact ⟨hb.symm, by omega⟩
  | false => rw [hc] at hb; cases hb

theorem Ret.good1 (h : Ret w g ob ob1 ob2 U names base ro w' gs' r2 ob') : Good w g ob1 U := (shares_step (w := w) (g := g) (U := U) h.good h.sh1).1
theorem Ret.good2 (h : Ret w g ob ob1 ob2 U names base ro w' gs' r2 ob') : Good w g ob2 U := by
  rcases h.sh2 with e | e
  · rw [e]; exact h.good1
  · rw [e]; exact h.good
theorem Ret.sh12 (h : Ret w g ob ob1 ob2 U names base ro w' gs' r2 ob') : Shares ob2 ob1 := by
  rcases h.sh2 with e | e
  · rw [e]; exact Shares.refl _
  · rw [e]; exact h.sh1
theorem Ret.nameU (h : Ret w g ob ob1 ob2 U names base ro w' gs' r2 ob') {o : Nat} (ho : o ∈ names) : U o := h.good1.in o (h.mem o ho)

/-- the name before the call of an old name -/
theorem Ret.back_low (h : Ret w g ob ob1 ob2 U names base ro w' gs' r2 ob') {j i : Nat} (hb : backOf names base j = some i) : (¬(base ≤ i ∧ i < base + callW) ∧ j < names.length ∧ names[j]? = some i) ∨ ((base ≤ i ∧ i < base + callW) ∧ names.length ≤ j ∧ j = names.length + (i - base)) := by
  rcases Nat.lt_or_ge j names.length with q | q
  · rw [backOf_low q] at hb
    exact .inl ⟨h.below i (h.nameU (List.mem_of_getElem? hb)), q, hb⟩
  · obtain ⟨k1, k2⟩ := backOf_high q hb
    exact .inr ⟨by omega, q, by omega⟩
theorem Ret.back_inj (h : Ret w g ob ob1 ob2 U names base ro w' gs' r2 ob') {j j' i : Nat} (hb : backOf names base j = some i) (hb' : backOf names base j' = some i) : j = j' := by
  rcases h.back_low hb with ⟨a1, a2, a3⟩ | ⟨a1, a2, a3⟩ <;> rcases h.back_low hb' with ⟨b1, b2, b3⟩ | ⟨b1, b2, b3⟩
  · exact get_inj h.nodup a3 b3
  · omega
  · omega
  · omega

theorem Ret.bl (h : Ret w g ob ob1 ob2 U names base ro w' gs' r2 ob') {j i : Nat} (hb : backOf names base j = some i) : (after g gs' names.length base).bl i = gs'.bl j ∧ (after g gs' names.length base).cp i = gs'.cp j := by
  rcases h.back_low hb with ⟨a1, a2, a3⟩ | ⟨a1, a2, a3⟩
  · have e1 := h.step.later.bl j a2
    have e2 := h.step.later.cp j a2
    obtain ⟨p1, p2⟩ := pull_at (g := g) (al := alIn w g ob1 names) (show inOf names j = some i from a3)
    constructor
    · show (if base ≤ i ∧ i < base + callW then _ else g.bl i) = _
      rw [if_neg a1]
      exact p1.symm.trans e1.symm
    · show (if base ≤ i ∧ i < base + callW then _ else g.cp i) = _
      rw [if_neg a1]
      exact p2.symm.trans e2.symm
  · subst a3
    constructor
    · show (if base ≤ i ∧ i < base + callW then _ else g.bl i) = _
      rw [if_pos a1]
    · show (if base ≤ i ∧ i < base + callW then _ else g.cp i) = _
      rw [if_pos a1]
theorem Ret.old (h : Ret w g ob ob1 ob2 U names base ro w' gs' r2 ob') {i : Nat} (hi : U i) : (after g gs' names.length base).bl i = g.bl i ∧ (after g gs' names.length base).cp i = g.cp i := by
  have := h.below i hi
  exact ⟨if_neg this, if_neg this⟩

/-- what the callee had of an old object -/
theorem Ret.had (h : Ret w g ob ob1 ob2 U names base ro w' gs' r2 ob') {j i : Nat} (hj : names[j]? = some i) : oget (subObjs ob1 (fun o => idxOf o names) 0 names) j = (oget ob1 i).map (AObj.ren (fun o => idxOf o names)) := by
  rw [subObjs_get, if_pos (Nat.zero_le j), Nat.sub_zero, hj]; rfl

theorem Same.mut {x y : AObj} (h : Same x y) (off : Nat) : objMut x off ↔ objMut y off := by
  cases x with
  | box _ => cases y with
    | box _ => exact Iff.rfl
    | _ => exact h.elim
  | arr _ _ _ => have e : y = _ := h; subst e; exact Iff.rfl
  | map _ => have e : y = _ := h; subst e; exact Iff.rfl

theorem Ret.notMut (h : Ret w g ob ob1 ob2 U names base ro w' gs' r2 ob') {b off : Nat} (h1 : ¬Mut gs'.bl r2 b off) (h2 : ∀ i x', oget ob2 i = some x' → (ro = true ∨ i ∉ names) → g.bl i = some b → ¬objMut x' off) : ¬Mut (after g gs' names.length base).bl ob' b off := by
  rintro ⟨i, x', hx', hb, hm⟩
  rcases h.get i x' hx' with ⟨j, x, e1, e2, rfl, _⟩ | ⟨e1, e2⟩
  · exact h1 ⟨j, x, e2, by rw [← (h.bl e1).1]; exact hb, (objMut_ren x off).1 hm⟩
  · have hi := h.good2.in i (by rw [e1]; simp)
    rw [(h.old hi).1] at hb
    exact h2 i x' e1 e2 hb hm

/-- an object of the caller that came in and was not to be written -/
theorem Ret.roMut (h : Ret w g ob ob1 ob2 U names base ro w' gs' r2 ob') {i b off : Nat} {x : AObj} (hro : ro = true) (hi : i ∈ names) (hx : oget ob1 i = some x) (hb : g.bl i = some b) (hn : ¬Mut gs'.bl r2 b off) : ¬objMut x off := by
  intro hm
  obtain ⟨j, hj⟩ := idxOf_mem hi
  have hj' := idxOf_get hj
  have hjl := (List.getElem?_eq_some_iff.1 hj').1
  have hob : oget (subObjs ob1 (fun o => idxOf o names) 0 names) j = some (x.ren (fun o => idxOf o names)) := by rw [h.had hj', hx]; rfl
  obtain ⟨x', h1, h2⟩ := h.shape hro j hjl _ hob
  refine hn ⟨j, x', h1, ?_, (h2.mut off).1 ((objMut_ren x off).2 hm)⟩
  have e1 := h.step.later.bl j hjl
  exact e1.trans ((pull_at (g := g) (al := alIn w g ob1 names) (show inOf names j = some i from hj')).1.trans hb)

theorem Ret.keepS (h : Ret w g ob ob1 ob2 U names base ro w' gs' r2 ob') (h12 : ob2 = ob1) {b off : Nat} (hs : (cx w' gs' r2).S b off) : (cx w' (after g gs' names.length base) ob').S b off := by
  obtain ⟨hal, hnm⟩ := hs
  have hal : alIn w g ob1 names b off := by
    have e := h.step.al
    have : gs'.al b off := hal
    rw [e] at this; exact this
  refine ⟨alIn_al h.good1 hal, h.notMut hnm fun i x' hx' hc hb hm => ?_⟩
  rw [h12] at hx'
  rcases hal with hal | hal | ⟨o, ho, _, hob⟩
  · exact hal.2 ⟨i, x', hx', hb, hm⟩
  · have := h.good1.blk hx' hb; omega
  · obtain ⟨y, hy⟩ := Option.ne_none_iff_exists'.1 (h.mem o ho)
    have := h.good1.inj i o x' y b hx' hy hb hob
    subst this
    rcases hc with hc | hc
    · exact h.roMut hc ho hx' hb hnm hm
    · exact hc ho

/-- what was stable stays so -/
theorem Ret.keeps (h : Ret w g ob ob1 ob2 U names base ro w' gs' r2 ob') : Keeps w (cx w g ob2).S w' (cx w' (after g gs' names.length base) ob').S := by
  intro b off u hs hu
  have hs1 := (shares_later (w := w) (g := g) (U := U) h.sh12).keeps b off u hs hu
  have hin : (cx w (pull g (inOf names) (alIn w g ob1 names)) (subObjs ob1 (fun o => idxOf o names) 0 names)).S b off :=
    ((call_in h.good1 h.nodup h.mem).2.keeps b off u hs1.2 hu).2
  obtain ⟨hu', hs'⟩ := h.step.later.keeps b off u hin hu
  exact ⟨hu', hs.1, h.notMut hs'.2 fun i x' hx' _ hb hm => hs.2 ⟨i, x', hx', hb, hm⟩⟩

theorem Ret.ln_back (h : Ret w g ob ob1 ob2 U names base ro w' gs' r2 ob') {j i sz n : Nat} (hb : backOf names base j = some i) (hl : lnOf ob' i = some (sz, n)) : lnOf r2 j = some (sz, n) := by
  obtain ⟨xs, u, hx, rfl⟩ := lnOf_some hl
  rcases h.get i _ hx with ⟨j', x, e1, e2, e3, _⟩ | ⟨e1, e2⟩
  · have := h.back_inj hb e1
    subst this
    have := ren_arr e3.symm
    subst this
    exact lnOf_of e2
  · have hi := h.below i (h.good2.in i (by rw [e1]; simp))
    rcases h.back_low hb with ⟨a1, a2, a3⟩ | ⟨a1, a2, a3⟩
    · rcases e2 with hro | hni
      · have e1' : ∃ u', oget ob1 i = some (.arr sz xs u') := by
          rcases h.sh12 i with e | ⟨sz', xs', q1, q2⟩
          · exact ⟨u, by rw [e]; exact e1⟩
          · rw [e1] at q1; injection q1 with q1; injection q1 with q1 q3 _; subst q1; subst q3; exact ⟨false, q2⟩
        obtain ⟨u', hu'⟩ := e1'
        have hob : oget (subObjs ob1 (fun o => idxOf o names) 0 names) j = some (.arr sz xs u') := by rw [h.had a3, hu']; rfl
        obtain ⟨x', q1, q2⟩ := h.shape hro j a2 _ hob
        have e : x' = .arr sz xs u' := q2
        subst e
        exact lnOf_of q1
      · exact absurd (List.mem_of_getElem? a3) hni
    · omega

theorem Ret.ln_old (h : Ret w g ob ob1 ob2 U names base ro w' gs' r2 ob') {i sz n : Nat} (hi : U i) (hl : lnOf ob' i = some (sz, n)) : lnOf ob2 i = some (sz, n) := by
  obtain ⟨xs, u, hx, rfl⟩ := lnOf_some hl
  rcases h.get i _ hx with ⟨j, x, e1, e2, e3, _⟩ | ⟨e1, _⟩
  · have := ren_arr e3.symm
    subst this
    have hib := h.below i hi
    rcases h.back_low e1 with ⟨a1, a2, a3⟩ | ⟨a1, a2, a3⟩
    · have := h.step.later.ln j sz xs.length a2 (lnOf_of e2)
      obtain ⟨ys, u', q1, q2⟩ := lnOf_some this
      rw [h.had a3] at q1
      obtain ⟨y, y1, y2⟩ := Option.map_eq_some_iff.1 q1
      have := ren_arr y2
      subst this
      rw [← q2]
      exact (shares_later (w := w) (g := g) (U := U) h.sh12).ln i sz _ hi (lnOf_of y1)
    · omega
  · exact lnOf_of e1

theorem Ret.later (h : Ret w g ob ob1 ob2 U names base ro w' gs' r2 ob') : Later (cx w g ob2) (cx w' (after g gs' names.length base) ob') U :=
  ⟨h.keeps, fun o ho => (h.old ho).1, fun o ho => (h.old ho).2, fun o sz n ho hl => h.ln_old ho hl⟩

/-- old blocks that did not come in are as they were -/
theorem Ret.chg (h : Ret w g ob ob1 ob2 U names base ro w' gs' r2 ob') {b : Nat} (hb : b < w.heap.size) (hn : ∀ o, o ∈ names → ro = false → g.bl o ≠ some b) : w'.heap[b]? = w.heap[b]? := by
  refine h.step.chg b hb fun j hk hx he => ?_
  obtain ⟨x', hx'⟩ := Option.ne_none_iff_exists'.1 hx
  obtain ⟨o, x, h1, h2, _⟩ := (names_in (ob := ob1) h.nodup).ob j x' hx'
  have hjl := (List.getElem?_eq_some_iff.1 (show names[j]? = some o from h1)).1
  have e := (pull_at (g := g) (al := alIn w g ob1 names) h1).1
  rcases hk with hk | hk
  · exact hn o (List.mem_of_getElem? h1) hk (e.symm.trans he)
  · omega
end
end Go.V

set_option linter.unusedVariables false
set_option linter.unusedSimpArgs false
namespace Go.V
section
variable {w w' : World} {g gs' : Gh} {ob ob1 ob2 r2 ob' : Objs} {U : Nat → Prop} {names : List Nat} {base : Nat} {ro : Bool}

theorem Ret.backU (h : Ret w g ob ob1 ob2 U names base ro w' gs' r2 ob') {j n : Nat} (hb : backOf names base j = some n) : U n ∨ (base ≤ n ∧ n < base + callW) := by
  rcases h.back_low hb with ⟨a1, a2, a3⟩ | ⟨a1, a2, a3⟩
  · exact .inl (h.nameU (List.mem_of_getElem? a3))
  · have := (backOf_high a2 hb).2
    exact .inr a1

theorem Ret.al (h : Ret w g ob ob1 ob2 U names base ro w' gs' r2 ob') {b off : Nat} (hal : gs'.al b off) : g.al b off := by
  rw [h.step.al] at hal
  exact alIn_al h.good1 hal

theorem Ret.same (h : Ret w g ob ob1 ob2 U names base ro w' gs' r2 ob') {i b : Nat} {x' : AObj} (hx : oget ob2 i = some x') (hb : g.bl i = some b) (hc : ro = true ∨ i ∉ names) : w'.heap[b]? = w.heap[b]? := by
  refine h.chg (h.good2.blk hx hb) fun o ho hro he => ?_
  have h1 : ∃ x1, oget ob1 i = some x1 := by
    rcases h.sh12 i with e | ⟨sz', xs', q1, q2⟩
    · exact ⟨x', by rw [e]; exact hx⟩
    · exact ⟨_, q2⟩
  obtain ⟨x1, hx1⟩ := h1
  obtain ⟨y, hy⟩ := Option.ne_none_iff_exists'.1 (h.mem o ho)
  have := h.good1.inj i o x1 y b hx1 hy hb he
  subst this
  rcases hc with hc | hc
  · rw [hc] at hro; cases hro
  · exact hc ho

theorem Ret.good' (h : Ret w g ob ob1 ob2 U names base ro w' gs' r2 ob') {c1 : Cx} (hr : RenOk c1 (cx w' (after g gs' names.length base) ob') (backOf names base)) (hw : c1.w = w') (hbl : c1.bl = gs'.bl) (hcp : c1.cp = gs'.cp) (hrep : ∀ j x, oget r2 j = some x → ObRep c1 j x) :
    Good w' (after g gs' names.length base) ob' (fun n => U n ∨ (base ≤ n ∧ n < base + callW)) := by
  -- where an object came from, and its block
  have new_ : ∀ {j i b : Nat} {x : AObj}, backOf names base j = some i → oget r2 j = some x → (names.length ≤ j ∨ ro = false) → gs'.bl j = some b → ∀ {i2 : Nat} {x2 : AObj}, oget ob2 i2 = some x2 → (ro = true ∨ i2 ∉ names) → g.bl i2 = some b → False := by
    intro j i b x hb hx hj hbj i2 x2 hx2 hc hb2
    have hlt := h.good2.blk hx2 hb2
    have h1 : ∃ x1, oget ob1 i2 = some x1 := by
      rcases h.sh12 i2 with e | ⟨sz', xs', q1, q2⟩
      · exact ⟨x2, by rw [e]; exact hx2⟩
      · exact ⟨_, q2⟩
    obtain ⟨x1, hx1⟩ := h1
    have low : ∀ {p : Nat}, ro = false → oget (subObjs ob1 (fun o => idxOf o names) 0 names) p ≠ none → (pull g (inOf names) (alIn w g ob1 names)).bl p = some b → False := by
      intro p hro hp hbp
      obtain ⟨y, hy⟩ := Option.ne_none_iff_exists'.1 hp
      obtain ⟨o, x0, q1, q2, _⟩ := (names_in (ob := ob1) h.nodup).ob p y hy
      have e := (pull_at (g := g) (al := alIn w g ob1 names) q1).1
      have := h.good1.inj i2 o x1 x0 b hx1 q2 hb2 (e.symm.trans hbp)
      subst this
      rcases hc with hc | hc
      · rw [hc] at hro; cases hro
      · exact hc (List.mem_of_getElem? q1)
    rcases Nat.lt_or_ge j names.length with q | q
    · have hro : ro = false := by rcases hj with hj | hj; omega; exact hj
      exact low hro (h.step.old j q (by rw [hx]; simp)) ((h.step.later.bl j q).symm.trans hbj)
    · rcases h.step.new j (by omega) (by rw [hx]; simp) b hbj with hh | ⟨p, p1, p2, p3⟩
      · omega
      · rcases p1 with p1 | p1
        · exact low p1 p2 p3
        · obtain ⟨y, hy⟩ := Option.ne_none_iff_exists'.1 p2
          obtain ⟨o, x0, q1, q2, _⟩ := (names_in (ob := ob1) h.nodup).ob p y hy
          have := (List.getElem?_eq_some_iff.1 (show names[p]? = some o from q1)).1
          omega
  refine ⟨fun i x' hx' => ?_, fun i i' x x' b hi hi' h1 h2 => ?_, fun i x' hx' => ?_, fun b off hb => h.good.fresh b off (Nat.le_trans h.step.size hb), fun i x' b hx' hb off => ?_⟩
  · rcases h.get i x' hx' with ⟨j, x, e1, e2, rfl, _⟩ | ⟨e1, e2⟩
    · exact ObRep.ren hr (by rw [hbl]; exact (h.bl e1).1) (by rw [hcp]; exact (h.bl e1).2) (fun b _ => by rw [hw]; rfl) (hrep j x e2)
    · have hU := (h.good2.dom i x' e1)
      exact ObRep.mono h.later i x' hU.1 hU.2 (fun b hb => h.same e1 hb e2) (h.good2.rep i x' e1)
  · rcases h.get i x hi with ⟨j, y, e1, e2, _, e4⟩ | ⟨e1, e2⟩ <;> rcases h.get i' x' hi' with ⟨j', y', f1, f2, _, f4⟩ | ⟨f1, f2⟩
    · rw [(h.bl e1).1] at h1
      rw [(h.bl f1).1] at h2
      have := h.goodS.inj j j' y y' b e2 f2 h1 h2
      subst this
      rw [e1] at f1; injection f1
    · rw [(h.bl e1).1] at h1
      rw [(h.old (h.good2.dom i' x' f1).1).1] at h2
      exact (new_ e1 e2 e4 h1 f1 f2 h2).elim
    · rw [(h.bl f1).1] at h2
      rw [(h.old (h.good2.dom i x e1).1).1] at h1
      exact (new_ f1 f2 f4 h2 e1 e2 h1).elim
    · rw [(h.old (h.good2.dom i x e1).1).1] at h1
      rw [(h.old (h.good2.dom i' x' f1).1).1] at h2
      exact h.good2.inj i i' x x' b e1 f1 h1 h2
  · rcases h.get i x' hx' with ⟨j, x, e1, e2, rfl, _⟩ | ⟨e1, e2⟩
    · refine ⟨h.backU e1, fun n hn => ?_⟩
      obtain ⟨o', _, q⟩ := AObj.ren_names x n hn
      exact h.backU q
    · have hU := (h.good2.dom i x' e1)
      exact ⟨.inl hU.1, fun n hn => .inl (hU.2 n hn)⟩
  · rcases h.get i x' hx' with ⟨j, x, e1, e2, rfl, _⟩ | ⟨e1, e2⟩
    · rw [(h.bl e1).1] at hb
      exact h.al (h.goodS.own j x b e2 hb off)
    · rw [(h.old (h.good2.dom i x' e1).1).1] at hb
      exact h.good2.own i x' b e1 hb off

theorem Ret.step' (h : Ret w g ob ob1 ob2 U names base ro w' gs' r2 ob') {K : Nat → Prop} (hK : ro = false → ∀ o ∈ names, K o) : Step w g ob2 w' (after g gs' names.length base) ob' U K := by
  have to2 : ∀ {i : Nat}, oget ob1 i ≠ none → oget ob2 i ≠ none := by
    intro i hi
    rcases h.sh12 i with e | ⟨sz', xs', q1, q2⟩
    · rw [← e]; exact hi
    · rw [q1]; simp
  refine ⟨h.later, fun o ho hx => ?_, fun b hb hk => h.chg hb fun o ho hro he => ?_, fun o ho hx b hb => ?_, h.step.size, h.step.os, h.step.tape, h.step.output, rfl⟩
  · obtain ⟨x', hx'⟩ := Option.ne_none_iff_exists'.1 hx
    rcases h.get o x' hx' with ⟨j, x, e1, e2, rfl, _⟩ | ⟨e1, e2⟩
    · have hob := h.below o ho
      rcases h.back_low e1 with ⟨a1, a2, a3⟩ | ⟨a1, a2, a3⟩
      · exact to2 (h.mem o (List.mem_of_getElem? a3))
      · omega
    · rw [e1]; simp
  · exact hk o (hK hro o ho) (to2 (h.mem o ho)) he
  · obtain ⟨x', hx'⟩ := Option.ne_none_iff_exists'.1 hx
    rcases h.get o x' hx' with ⟨j, x, e1, e2, rfl, e4⟩ | ⟨e1, e2⟩
    · rw [(h.bl e1).1] at hb
      rcases h.back_low e1 with ⟨a1, a2, a3⟩ | ⟨a1, a2, a3⟩
      · exact absurd (h.nameU (List.mem_of_getElem? a3)) ho
      · rcases h.step.new j (by omega) (by rw [e2]; simp) b hb with hh | ⟨p, p1, p2, p3⟩
        · exact .inl hh
        · obtain ⟨y, hy⟩ := Option.ne_none_iff_exists'.1 p2
          obtain ⟨q, x0, q1, q2, _⟩ := (names_in (ob := ob1) h.nodup).ob p y hy
          have hpl := (List.getElem?_eq_some_iff.1 (show names[p]? = some q from q1)).1
          rcases p1 with p1 | p1
          · exact .inr ⟨q, hK p1 q (List.mem_of_getElem? q1), to2 (by rw [q2]; simp), (pull_at (g := g) (al := alIn w g ob1 names) q1).1.symm.trans p3⟩
          · omega
    · exact absurd (h.good2.dom o x' e1).1 ho
end
end Go.V

set_option linter.unusedVariables false
set_option linter.unusedSimpArgs false
namespace Go.V
section
variable {w : World} {g : Gh} {ob ob1 : Objs} {U : Nat → Prop}

/-! ### arguments that are seen as data -/
theorem toD_names {c : AV} {x : Data} {ob : Objs} (h : c.toD ob = some x) : c.names = c.ownNames := by
  cases c <;> first | rfl | (cases h; done)

theorem viewC_rep (hg : Good w g ob U) (hsh : Shares ob ob1) {c : AV} {v : Value} (hv : VRep (cx w g ob) c v) (hn : NamesIn U c.names) (hu : ∀ o ∈ c.ownNames, NotUniq ob1 o) : VRep (cx w g ob1) (c.viewC ob) v ∧ NamesIn U (c.viewC ob).names := by
  unfold AV.viewC
  cases h : c.toD ob with
  | some x => exact ⟨toD_rep hg hv h hsh hu, fun o ho => by cases ho⟩
  | none => exact ⟨VRep.mono (shares_later (U := U) hsh) c v hn hv, hn⟩
theorem viewL_rep (hg : Good w g ob U) (hsh : Shares ob ob1) : ∀ {l : List AV} {vs : List Value}, VReps (cx w g ob) l vs → NamesIn U (namesL l) → (∀ o ∈ ownNamesL l, NotUniq ob1 o) → VReps (cx w g ob1) (viewL ob l) vs ∧ NamesIn U (namesL (viewL ob l))
  | [], vs, hv, _, _ => ⟨hv, fun o ho => by cases ho⟩
  | c :: l, vs, hv, hn, hu => by
    obtain ⟨v, vs', rfl, h1, h2⟩ := hv
    obtain ⟨a1, a2⟩ := viewC_rep hg hsh h1 (fun o ho => hn o (List.mem_append.2 (.inl ho))) (fun o ho => hu o (List.mem_append.2 (.inl ho)))
    obtain ⟨b1, b2⟩ := viewL_rep hg hsh h2 (fun o ho => hn o (List.mem_append.2 (.inr ho))) (fun o ho => hu o (List.mem_append.2 (.inr ho)))
    refine ⟨⟨v, vs', rfl, a1, b1⟩, fun o ho => ?_⟩
    rcases List.mem_append.1 (show o ∈ (c.viewC ob).names ++ namesL (viewL ob l) from ho) with ho | ho
    · exact a2 o ho
    · exact b2 o ho
theorem view_rep (hg : Good w g ob U) (hsh : Shares ob ob1) {c : AV} {v : Value} (hv : VRep (cx w g ob) c v) (hn : NamesIn U c.names) (hu : ∀ o ∈ c.shared, NotUniq ob1 o) : VRep (cx w g ob1) (c.view ob) v ∧ NamesIn U (c.view ob).names := by
  cases c with
  | agg cs =>
    obtain ⟨vs, rfl, h1, h2⟩ := hv
    obtain ⟨a1, a2⟩ := viewL_rep hg hsh h2 hn hu
    exact ⟨mkAgg_rep a1 h1, mkAgg_names a2⟩
  | _ => exact viewC_rep hg hsh hv hn hu
theorem views_rep (hg : Good w g ob U) (hsh : Shares ob ob1) : ∀ {l : List AV} {vs : List Value}, VReps (cx w g ob) l vs → NamesIn U (namesL l) → (∀ o ∈ sharedL l, NotUniq ob1 o) → VReps (cx w g ob1) (viewArgs ob l) vs ∧ NamesIn U (namesL (viewArgs ob l))
  | [], vs, hv, _, _ => ⟨hv, fun o ho => by cases ho⟩
  | c :: l, vs, hv, hn, hu => by
    obtain ⟨v, vs', rfl, h1, h2⟩ := hv
    obtain ⟨a1, a2⟩ := view_rep hg hsh h1 (fun o ho => hn o (List.mem_append.2 (.inl ho))) (fun o ho => hu o (List.mem_append.2 (.inl ho)))
    obtain ⟨b1, b2⟩ := views_rep hg hsh h2 (fun o ho => hn o (List.mem_append.2 (.inr ho))) (fun o ho => hu o (List.mem_append.2 (.inr ho)))
    refine ⟨⟨v, vs', rfl, a1, b1⟩, fun o ho => ?_⟩
    rcases List.mem_append.1 (show o ∈ (c.view ob).names ++ namesL (viewArgs ob l) from ho) with ho | ho
    · exact a2 o ho
    · exact b2 o ho

theorem fitsW_keys {m : Nat} : ∀ {l : Objs} {j : Nat}, fitsW m l = true → j ∈ keysOf l → j < m + callW
  | (k, v) :: l, j, h, hj => by
    unfold fitsW at h
    simp only [Bool.and_eq_true] at h
    rcases List.mem_cons.1 hj with e | hj
    · subst e; exact Nat.le_of_ble_eq_true h.1
    · exact fitsW_keys h.2 hj
theorem imports_keys {back : Nat → Option Nat} {ob' : Objs} : ∀ (l : List Nat) (j : Nat) {o : Nat}, o ∈ l → o ∈ keysOf (importsUpd back ob' j l)
  | x :: l, j, o, h => by
    rcases List.mem_cons.1 h with e | h
    · subst e; exact List.mem_cons_self
    · exact List.mem_cons_of_mem _ (imports_keys l (j + 1) h)
theorem keysOf_append : ∀ (a b : Objs), keysOf (a ++ b) = keysOf a ++ keysOf b
  | [], b => rfl
  | (k, v) :: a, b => by show k :: keysOf (a ++ b) = k :: (keysOf a ++ keysOf b); rw [keysOf_append a b]

/-- the objects after a call, one by one -/
theorem back_get {base i : Nat} {names : List Nat} {ro : Bool} {r2 rest : Objs} {x' : AObj} (hf : fitsW names.length r2 = true)
    (hx : oget (localsUpd names.length base (backOf names base) r2 ++ ((bcond ro (fun _ => []) (fun _ => importsUpd (backOf names base) r2 0 names)) ++ rest)) i = some x') :
    (∃ j x, backOf names base j = some i ∧ oget r2 j = some x ∧ x' = x.ren (backOf names base) ∧ (names.length ≤ j ∨ ro = false)) ∨ (oget rest i = some x' ∧ (ro = true ∨ i ∉ names)) := by
  have tail : oget ((bcond ro (fun _ => []) (fun _ => importsUpd (backOf names base) r2 0 names)) ++ rest) i = some x' →
      (∃ j x, backOf names base j = some i ∧ oget r2 j = some x ∧ x' = x.ren (backOf names base) ∧ (names.length ≤ j ∨ ro = false)) ∨ (oget rest i = some x' ∧ (ro = true ∨ i ∉ names)) := by
    intro ht
    cases ro with
    | true => exact .inr ⟨ht, .inl rfl⟩
    | false =>
      have ht' : oget (importsUpd (backOf names base) r2 0 names ++ rest) i = some x' := ht
      rw [imports_get] at ht'
      cases hi : idxOf i names with
      | none =>
        rw [hi] at ht'
        exact .inr ⟨ht', .inr fun hm => by obtain ⟨j, hj⟩ := idxOf_mem hm; rw [hi] at hj; cases hj⟩
      | some k =>
        rw [hi] at ht'
        obtain ⟨x, h1, h2⟩ := Option.map_eq_some_iff.1 (show (oget r2 (0 + k)).map _ = some x' from ht')
        have hk := idxOf_get hi
        have hkl := (List.getElem?_eq_some_iff.1 hk).1
        rw [Nat.zero_add] at h1
        exact .inl ⟨k, x, by rw [backOf_low hkl]; exact hk, h1, h2.symm, .inr rfl⟩
  rcases Nat.lt_or_ge i base with q | q
  · rw [locals_low _ _ q] at hx; exact tail hx
  · rw [locals_get _ _ q] at hx
    by_cases hm : names.length + (i - base) ∈ keysOf r2
    · rw [if_pos hm] at hx
      obtain ⟨x, h1, h2⟩ := Option.map_eq_some_iff.1 hx
      have hlt := fitsW_keys hf hm
      refine .inl ⟨names.length + (i - base), x, ?_, h1, h2.symm, .inl (by omega)⟩
      unfold backOf
      rw [Nat.ble_eq_true_of_le (by omega)]
      dsimp only
      have : Nat.blt (names.length + (i - base) - names.length) callW = true := Nat.ble_eq_true_of_le (by omega)
      rw [this]
      dsimp only
      congr 1; omega
    · rw [if_neg hm] at hx; exact tail hx
end
end Go.V

set_option linter.unusedVariables false
set_option linter.unusedSimpArgs false
namespace Go.V

def Enters (P : Program) (f : Nat) : Prop := ∃ fn, P.funcs[f]? = some fn ∧ (fn.name == "runtime.NumGoroutine") = false ∧ fn.body.isNone = false
def Callee (gl : GlT) (P : Program) (att : Nat → Attr) (call : CallT) : Prop := ∀ f args ob r, call f args ob = some r → Enters P f ∧ CallOK gl P (att f).ro f args ob r

section
variable {gl : GlT} {P : Program} {w : World} {g : Gh} {ob : Objs} {U : Nat → Prop} {base : Nat}

theorem callIn_ok {att : Nat → Attr} {call : CallT} (hc : Callee gl P att call) {f : Nat} {args : List AV} {vals : List Value} {sh : Objs} {rd names : List Nat} {r : R} (hg : Good w g ob U) (hb : ∀ n, U n → ¬(base ≤ n ∧ n < base + callW)) (hsh : Shares ob (sh ++ ob))
    (ha : VReps (cx w g (sh ++ ob)) args vals) (hglob : GlobOk gl w (cx w g ob).S) (hnd : names.Nodup) (hmem : ∀ o ∈ names, oget ob o ≠ none) (hr : callIn (att f) call base f args ob sh rd names = some r) :
    Calls P f vals.toArray w fun e w' => ∃ v, e = .returned v ∧ Done w g ob U base callW r v w' := by
  obtain ⟨p, hp, hr⟩ := obind_eq hr
  obtain ⟨hq, hr⟩ := need_some hr
  injection hr with hr; subst hr
  simp only [Bool.and_eq_true] at hq
  obtain ⟨hfit, hflat⟩ := hq
  obtain ⟨g1, s1⟩ := shares_step (w := w) (g := g) (U := U) hg hsh
  have hmem1 : ∀ o ∈ names, oget (sh ++ ob) o ≠ none := by
    intro o ho
    rcases hsh o with e | ⟨sz, xs, _, e2⟩
    · rw [e]; exact hmem o ho
    · rw [e2]; simp
  obtain ⟨gi, ri⟩ := call_in g1 hnd hmem1
  have hlen : (subObjs (sh ++ ob) (fun o => idxOf o names) 0 names).length = names.length := subObjs_length _ _ _ _
  have hargs := VReps.ren ri args vals ha
  have hnames : NamesIn (· < names.length) (namesL (renL (fun o => idxOf o names) args)) := fun q hq => by
    obtain ⟨o, _, h3⟩ := renL_names args q hq
    exact (List.getElem?_eq_some_iff.1 (idxOf_get h3)).1
  have hgl1 := (hglob.mono s1.later.keeps).mono ri.keeps
  have key := (hc f _ _ p hp).2 w _ vals (by rw [hlen]; exact gi) hargs (by rw [hlen]; exact hnames) hgl1
  refine key.mono ?_
  rintro e w' ⟨v, rfl, gs', k1, k2, k3, k4⟩
  rw [hlen] at k3 k4
  refine ⟨v, rfl, ?_⟩
  obtain ⟨ob2, hob2⟩ : ∃ ob2, ob2 = bcond (att f).keeps (fun _ => sh) (fun _ => []) ++ ob := ⟨_, rfl⟩
  obtain ⟨ob', hob'⟩ : ∃ ob', ob' = (localsUpd names.length base (backOf names base) p.2 ++ (bcond (att f).ro (fun _ => []) (fun _ => importsUpd (backOf names base) p.2 0 names)) ++ bcond (att f).keeps (fun _ => sh) (fun _ => [])) ++ ob := ⟨_, rfl⟩
  have H : Ret w g ob (sh ++ ob) ob2 U names base (att f).ro w' gs' p.2 ob' := by
    refine ⟨hg, hsh, ?_, hb, hnd, hmem1, k1, k3, k4, fun i x' hx' => ?_⟩
    · rw [hob2]
      cases (att f).keeps with
      | true => exact .inl rfl
      | false => exact .inr rfl
    · rw [hob', List.append_assoc, List.append_assoc, ← hob2] at hx'
      exact back_get hfit hx'
  have hs2 : Step w g ob w g ob2 U (fun _ => False) := by
    rw [hob2]
    cases (att f).keeps with
    | true => exact s1
    | false => exact Step.refl w g ob U _ hg.in
  have fin : ∀ {c1 : Cx}, RenOk c1 (cx w' (after g gs' names.length base) ob') (backOf names base) → c1.w = w' → c1.bl = gs'.bl → c1.cp = gs'.cp → (∀ j x, oget p.2 j = some x → ObRep c1 j x) → VRep c1 p.1 v →
      Done w g ob U base callW ⟨p.1.ren (backOf names base), localsUpd names.length base (backOf names base) p.2 ++ (bcond (att f).ro (fun _ => []) (fun _ => importsUpd (backOf names base) p.2 0 names)) ++ bcond (att f).keeps (fun _ => sh) (fun _ => []), names ++ rd⟩ v w' := by
    intro c1 q1 q2 q3 q4 q5 q6
    have G := H.good' q1 q2 q3 q4 q5
    have T := H.step' (K := fun o => o ∈ keysOf (localsUpd names.length base (backOf names base) p.2 ++ (bcond (att f).ro (fun _ => []) (fun _ => importsUpd (backOf names base) p.2 0 names)) ++ bcond (att f).keeps (fun _ => sh) (fun _ => []))) (fun hro o ho => by
      rw [hro, keysOf_append, keysOf_append]
      exact List.mem_append.2 (.inl (List.mem_append.2 (.inr (imports_keys names 0 ho)))))
    refine ⟨after g gs' names.length base, ?_, ?_, ?_, fun n hn => ?_⟩
    · rw [hob'] at G; exact G
    · have := (Step.trans hs2 T (fun _ h => h)).mono (K1 := fun o => o ∈ keysOf (localsUpd names.length base (backOf names base) p.2 ++ (bcond (att f).ro (fun _ => []) (fun _ => importsUpd (backOf names base) p.2 0 names)) ++ bcond (att f).keeps (fun _ => sh) (fun _ => []))) (fun o ho => ho.elim False.elim id)
      rw [hob'] at this; exact this
    · have := VRep.ren q1 p.1 v q6
      rw [hob'] at this; exact this
    · obtain ⟨o, _, h3⟩ := ren_names p.1 n hn
      exact H.backU h3
  cases hk : (att f).keeps with
  | true =>
    have h12 : ob2 = sh ++ ob := by rw [hob2, hk]; rfl
    refine hk ▸ fin (c1 := cx w' gs' p.2) ⟨fun b off u hs hu => ⟨hu, H.keepS h12 hs⟩, fun o j hj => (H.bl hj).1, fun o j hj => (H.bl hj).2, fun o j sz n hj hl => H.ln_back hj hl⟩ rfl rfl rfl (fun j x hx => k1.rep j x hx) k2
  | false =>
    rw [hk] at hflat
    simp only [Bool.false_or, Bool.and_eq_true] at hflat
    refine hk ▸ fin (c1 := (cx w' gs' p.2).forget) ⟨fun b off u hs hu => hs.elim, fun o j hj => (H.bl hj).1, fun o j hj => (H.bl hj).2, fun o j sz n hj hl => H.ln_back hj hl⟩ rfl rfl rfl (fun j x hx => ObRep.flat (flatObs_get hflat.2 hx) (k1.rep j x hx)) (VRep.flat _ _ hflat.1 k2)

theorem doCall_ok {att : Nat → Attr} {call : CallT} (hc : Callee gl P att call) {f : Nat} {args : List AV} {vals : List Value} {r : R} (hg : Good w g ob U) (hb : ∀ n, U n → ¬(base ≤ n ∧ n < base + callW))
    (ha : VReps (cx w g ob) args vals) (hn : NamesIn U (namesL args)) (hglob : GlobOk gl w (cx w g ob).S) (hr : doCall (att f) call base f args ob = some r) :
    Calls P f vals.toArray w fun e w' => ∃ v, e = .returned v ∧ Done w g ob U base callW r v w' := by
  unfold doCall at hr
  cases hby : (att f).byref with
  | true =>
    rw [hby] at hr
    exact callIn_ok hc (sh := []) hg hb (Shares.refl ob) ha hglob (reach_nodup _ _ _ _ List.nodup_nil) (fun o ho => reach_some ob _ _ _ (fun _ h => by cases h) o ho) hr
  | false =>
    rw [hby] at hr
    obtain ⟨a1, a2⟩ := views_rep hg (shareUpd_shares ob (sharedL args)) ha hn (fun o ho => shareUpd_not ob (sharedL args) o ho)
    exact callIn_ok hc hg hb (shareUpd_shares ob (sharedL args)) a1 hglob (reach_nodup _ _ _ _ List.nodup_nil) (fun o ho => reach_some ob _ _ _ (fun _ h => by cases h) o ho) hr

theorem doCall_enters {att : Nat → Attr} {call : CallT} (hc : Callee gl P att call) {f : Nat} {args : List AV} {r : R} (hr : doCall (att f) call base f args ob = some r) : Enters P f := by
  unfold doCall at hr
  cases hby : (att f).byref with
  | true =>
    rw [hby] at hr
    obtain ⟨p, hp, _⟩ := obind_eq hr
    exact (hc f _ _ p hp).1
  | false =>
    rw [hby] at hr
    obtain ⟨p, hp, _⟩ := obind_eq hr
    exact (hc f _ _ p hp).1
end
end Go.V

set_option linter.unusedVariables false
set_option linter.unusedSimpArgs false
namespace Go.V
section
variable {gl : GlT} {P : Program} {o : Oper} {a : Act} {w : World} {g : Gh} {ob : Objs} {U : Nat → Prop} {fr : Fr} {base : Nat} {r : R}

theorem run_call {c : Call} {f : Nat} {cap : Array Value} {x : Operand} (ho : o.op = .call c) (hc : c.callee = .value x) (hx : a.eval x = .func (.func f) #[] cap) (hf : Enters P f) :
    (execOp a.eval o).run P w = .ok (.enter f (c.args.map a.eval ++ cap)) w := by
  obtain ⟨fn, h1, h2, h3⟩ := hf
  have h2' : ¬ fn.name = "runtime.NumGoroutine" := by simpa using h2
  have h3' : ¬ fn.body = none := fun e => by rw [e] at h3; cases h3
  simp only [execOp, ho, resolve, hc, hx, Deferred.ofValue, invoke, callFunc, Sem.run_bind, Sem.run_pure, Result.andThen_ok]
  simp [h1, h2', h3']

theorem run_callb {c : Call} {f : Nat} {first : Array Value} {x : Operand} (ho : o.op = .call c) (hc : c.callee = .value x) (hx : a.eval x = .func (.func f) first #[]) (hf : Enters P f) :
    (execOp a.eval o).run P w = .ok (.enter f (first ++ c.args.map a.eval)) w := by
  obtain ⟨fn, h1, h2, h3⟩ := hf
  have h2' : ¬ fn.name = "runtime.NumGoroutine" := by simpa using h2
  have h3' : ¬ fn.body = none := fun e => by rw [e] at h3; cases h3
  simp only [execOp, ho, resolve, hc, hx, Deferred.ofValue, invoke, callFunc, Sem.run_bind, Sem.run_pure, Result.andThen_ok]
  simp [h1, h2', h3']

theorem ok_call {att : Nat → Attr} {call : CallT} (hcall : Callee gl P att call) (h : Here gl a w g ob U fr) (hb : ∀ n, U n → ¬(base ≤ n ∧ n < base + callW)) {c : Call} {f : Nat} {ts : List Nat} {ys : List Opd} (ho : o.op = .call c) (hc : c.callee = .value (.func f))
    (h1 : args gl P c.args.toList ts = some ys) (hr : doCall (att f) call base f (evL fr ys) ob = some r) : Runs P o a w (Done w g ob U base callW r) := by
  have e := run_call (P := P) (a := a) (w := w) (cap := #[]) ho hc rfl (doCall_enters hcall hr)
  refine .inr (.inr ⟨f, _, e, ?_⟩)
  have := doCall_ok hcall h.good hb (args_rep h h1) (args_names h h1) h.glob hr
  have e2 : (c.args.toList.map a.eval).toArray = c.args.map a.eval ++ #[] := by rw [Array.append_empty, ← Array.toList_map]
  rw [e2] at this
  exact this

theorem ok_callv {att : Nat → Attr} {call : CallT} (hcall : Callee gl P att call) (h : Here gl a w g ob U fr) (hb : ∀ n, U n → ¬(base ≤ n ∧ n < base + callW)) {c : Call} {t : Nat} {ts : List Nat} {ys : List Opd} (ho : o.op = .call c) (hc : c.callee = .value (.tmp t))
    (h1 : args gl P c.args.toList ts = some ys) (hr : callvR att call base (evL fr ys) ob (fget fr t) = some r) : Runs P o a w (Done w g ob U base callW r) := by
  have e1 := h.slot t
  have n1 := h.name t
  generalize fget fr t = v1 at hr e1 n1
  cases v1 with
  | clos f cap =>
    obtain ⟨vs, ev, hcap⟩ := e1
    unfold closVal at ev
    cases hf : Nat.ble 32768 f with
    | false =>
      rw [hf] at ev
      have hr' : doCall (att f) call base f (evL fr ys ++ cap) ob = some r := by
        have hh : bcond (Nat.ble 32768 f) (fun _ => doCall (att (f - 32768)) call base (f - 32768) (cap ++ evL fr ys) ob) (fun _ => doCall (att f) call base f (evL fr ys ++ cap) ob) = some r := hr
        rw [hf] at hh; exact hh
      have e := run_call (P := P) (a := a) (w := w) (cap := vs.toArray) ho hc ev (doCall_enters hcall hr')
      refine .inr (.inr ⟨f, _, e, ?_⟩)
      have := doCall_ok hcall h.good hb (VReps.append (args_rep h h1) hcap) (by
        intro n hn
        obtain ⟨x, hx, hnx⟩ := namesL_iff.1 hn
        rcases List.mem_append.1 hx with hx | hx
        · exact args_names h h1 n (namesL_mem hx hnx)
        · exact n1 n (namesL_mem hx hnx)) h.glob hr'
      have e2 : (c.args.toList.map a.eval ++ vs).toArray = c.args.map a.eval ++ vs.toArray := by
        apply Array.ext'
        simp
      rw [e2] at this
      exact this
    | true =>
      rw [hf] at ev
      have hr' : doCall (att (f - 32768)) call base (f - 32768) (cap ++ evL fr ys) ob = some r := by
        have hh : bcond (Nat.ble 32768 f) (fun _ => doCall (att (f - 32768)) call base (f - 32768) (cap ++ evL fr ys) ob) (fun _ => doCall (att f) call base f (evL fr ys ++ cap) ob) = some r := hr
        rw [hf] at hh; exact hh
      have e := run_callb (P := P) (a := a) (w := w) (first := vs.toArray) ho hc ev (doCall_enters hcall hr')
      refine .inr (.inr ⟨f - 32768, _, e, ?_⟩)
      have := doCall_ok hcall h.good hb (VReps.append hcap (args_rep h h1)) (by
        intro n hn
        obtain ⟨x, hx, hnx⟩ := namesL_iff.1 hn
        rcases List.mem_append.1 hx with hx | hx
        · exact n1 n (namesL_mem hx hnx)
        · exact args_names h h1 n (namesL_mem hx hnx)) h.glob hr'
      have e2 : (vs ++ c.args.toList.map a.eval).toArray = vs.toArray ++ c.args.map a.eval := by
        apply Array.ext'
        simp
      rw [e2] at this
      exact this
  | _ => cases hr
end
end Go.V

set_option linter.unusedVariables false
set_option linter.unusedSimpArgs false
namespace Go.V
section
variable {gl : GlT} {P : Program} {o : Oper} {a : Act} {w : World} {g : Gh} {ob : Objs} {U : Nat → Prop} {fr : Fr} {base : Nat} {r : R} {att : Nat → Attr} {call : CallT}

theorem args_one {x : Operand} {l : List Operand} {ts : List Nat} {ys : List Opd} (h : args gl P (x :: l) ts = some ys) : ∃ y ys', ys = y :: ys' ∧ opd gl P (ts.headD 0) x = some y ∧ args gl P l ts.tail = some ys' := by
  unfold args at h
  cases h1 : opd gl P (ts.headD 0) x with
  | none => rw [h1] at h; cases h
  | some y => cases h2 : args gl P l ts.tail with
    | none => rw [h1, h2] at h; cases h
    | some ys' => rw [h1, h2] at h; injection h with h; exact ⟨y, ys', h.symm, rfl, rfl⟩

theorem args_two {l : List Operand} {ts : List Nat} {x' y' : Opd} (h : args gl P l ts = some [x', y']) : ∃ x y t1 t2, l = [x, y] ∧ opd gl P t1 x = some x' ∧ opd gl P t2 y = some y' := by
  cases l with
  | nil => cases h
  | cons x l =>
    obtain ⟨a1, l1, e1, h1, k1⟩ := args_one h
    injection e1 with e1 e2; subst e1; subst e2
    cases l with
    | nil => cases k1
    | cons y l =>
      obtain ⟨a2, l2, e2, h2, k2⟩ := args_one k1
      injection e2 with e2 e3; subst e2; subst e3
      cases l with
      | nil => exact ⟨x, y, _, _, rfl, h1, h2⟩
      | cons z l => obtain ⟨a3, l3, e3, _⟩ := args_one k2; cases e3

theorem ok_binN (h : Here gl a w g ob U fr) {x y : Operand} {x' y' : Opd} {t t1 t2 t3 W : Nat} {op : BinOp} (ho : o.op = .binOp op t x y t3) (h1 : opd gl P t1 x = some x') (h2 : opd gl P t2 y = some y')
    (ht : (op = .eql ∨ op = .neq) → P.underlying t = some .bool ∨ P.underlying t = some .string ∨ ∃ k, P.underlying t = some (.int k)) (hr : binNR op (x'.ev fr) (y'.ev fr) = some r) : Runs P o a w (Done w g ob U base W r) := by
  have e1 := h.opd h1
  have hb : binR op (x'.ev fr) (y'.ev fr) = some r ∧ ∀ b, x'.ev fr ≠ .d (.bool b) := by
    generalize x'.ev fr = v1 at hr
    cases v1 with
    | d q => cases q with
      | bool b => cases hr
      | _ => exact ⟨hr, fun b e => by cases e⟩
    | _ => exact ⟨hr, fun b e => by cases e⟩
  refine ok_bin h ho h1 h2 ht hb.1 fun _ hh => ?_
  obtain ⟨u, v, hu, _⟩ := hh
  exfalso
  rw [hu] at e1
  generalize x'.ev fr = v1 at hb e1
  cases v1 with
  | d q => cases q with
    | bool b => exact hb.2 b rfl
    | sl _ _ => obtain ⟨_, _, e, _⟩ := e1; cases e
    | agg _ => obtain ⟨_, e, _⟩ := e1; cases e
    | _ => cases (show Value.bool u = _ from e1)
  | _ => cases hb.1

theorem ok_op {v : VOp} (hc : compOp gl P o = some v) (hcall : Callee gl P att call) (h : Here gl a w g ob U fr) (hb : ∀ n, base ≤ n → n < base + opW v → ¬U n) (hr : stepOp att call base fr ob v = some r) : Runs P o a w (Done w g ob U base (opW v) r) := by
  unfold compOp at hc
  cases ho : o.op with
  | move x =>
    rw [ho] at hc
    obtain ⟨y, h1, rfl⟩ := Option.map_eq_some_iff.1 hc
    exact ok_mv h (.inl ho) h1 hr
  | assign x =>
    rw [ho] at hc
    obtain ⟨y, h1, rfl⟩ := Option.map_eq_some_iff.1 hc
    exact ok_mv h (.inr ho) h1 hr
  | pick c x y =>
    rw [ho] at hc
    dsimp only at hc
    cases h1 : opd gl P 0 c with
    | none => rw [h1] at hc; cases hc
    | some c' => cases h2 : opd gl P o.type x with
      | none => rw [h1, h2] at hc; cases hc
      | some x' => cases h3 : opd gl P o.type y with
        | none => rw [h1, h2, h3] at hc; cases hc
        | some y' => rw [h1, h2, h3] at hc; injection hc with hc; subst hc; exact ok_pick h ho h1 h2 h3 hr
  | alloc t =>
    rw [ho] at hc
    obtain ⟨z, h1, rfl⟩ := Option.map_eq_some_iff.1 hc
    exact ok_alloc h hb (Nat.le_refl _) ho h1 hr
  | box t x =>
    rw [ho] at hc
    obtain ⟨z, h1, rfl⟩ := Option.map_eq_some_iff.1 hc
    exact ok_box h hb (Nat.le_refl _) ho h1 hr
  | nilCheck x =>
    rw [ho] at hc
    obtain ⟨y, h1, rfl⟩ := Option.map_eq_some_iff.1 hc
    exact ok_nilchk h ho h1 hr
  | extract x i =>
    rw [ho] at hc
    obtain ⟨y, h1, rfl⟩ := Option.map_eq_some_iff.1 hc
    exact ok_ext h ho h1 hr
  | unOp op t x =>
    rw [ho] at hc
    obtain ⟨y, h1, rfl⟩ := Option.map_eq_some_iff.1 hc
    exact ok_un h ho h1 hr
  | load t x =>
    rw [ho] at hc
    dsimp only at hc
    split at hc
    · rename_i e1 e2 e3; injection hc with hc; subst hc; exact ok_load h ho e1 e2 e3 hr
    · cases hc
  | store t x y =>
    rw [ho] at hc
    dsimp only at hc
    split at hc
    · rename_i e1 e2 e3; injection hc with hc; subst hc; exact ok_store h ho e1 e2 e3 hr
    · cases hc
  | build t ps =>
    rw [ho] at hc
    dsimp only at hc
    split at hc
    · rename_i e1 e2 e3; injection hc with hc; subst hc; exact ok_build h ho e1 e2 e3 hr
    · cases hc
  | fieldAddr t x f =>
    rw [ho] at hc
    dsimp only at hc
    split at hc
    · rename_i e1 e2
      split at hc
      · rename_i e3
        split at hc
        · rename_i e4; injection hc with hc; subst hc; exact ok_faddr h ho e2 e1 e3 e4 hr
        · cases hc
      · cases hc
    · cases hc
  | field t x f =>
    rw [ho] at hc
    dsimp only at hc
    split at hc
    · rename_i e1 e2
      split at hc
      · rename_i e3 e4; injection hc with hc; subst hc; exact ok_fld h ho e2 e1 e3 e4 hr
      · cases hc
    · cases hc
  | convert sT dT x =>
    rw [ho] at hc
    dsimp only at hc
    split at hc
    · rename_i e1 e2 e3; injection hc with hc; subst hc; exact ok_conv h ho e1 e2 e3 hr
    · rename_i e1 e2 e3; injection hc with hc; subst hc; exact ok_strid h ho e1 e2 e3 hr
    · cases hc
  | makeMap t q =>
    rw [ho] at hc
    cases q with
    | some _ => cases hc
    | none => injection hc with hc; subst hc; exact ok_mkmap h hb (Nat.le_refl _) ho hr
  | makeSlice t n c =>
    rw [ho] at hc
    dsimp only at hc
    split at hc
    · rename_i e1
      split at hc
      · rename_i e2 e3 e4 e5 e6
        split at hc
        · rename_i e7; injection hc with hc; subst hc; exact ok_mkslice h hb (Nat.le_refl _) ho e1 e2 e3 e4 e7.2 e7.1 e5 e6 hr
        · cases hc
      · cases hc
    · cases hc
  | buildSlice t n ps =>
    rw [ho] at hc
    dsimp only at hc
    split at hc
    · rename_i e1
      split at hc
      · rename_i e2 e3
        split at hc
        · rename_i e7
          injection hc with hc; subst hc
          simp only [Bool.and_eq_true, decide_eq_true_eq] at e7
          exact ok_bslice h hb (Nat.le_refl _) ho e1 e2 e3 e7.1.1.1 e7.1.1.2 e7.1.2 e7.2 hr
        · cases hc
      · cases hc
    · cases hc
  | slice t x lo hi mx =>
    rw [ho] at hc
    dsimp only at hc
    split at hc
    · rename_i e1 e2 e3 e4 e5
      split at hc
      · rename_i e6
        obtain ⟨sz, h1, rfl⟩ := Option.map_eq_some_iff.1 hc
        refine ok_slice h ho e1 h1 e2 e3 e4 e5 (fun hm hh => ?_) hr
        subst hh
        cases mx with
        | none => exact hm rfl
        | some q =>
          simp only [Bool.or_eq_true] at e6
          obtain ⟨k, hk, e⟩ := Option.map_eq_some_iff.1 e5
          rcases e6 with e6 | e6
          · subst e; cases e6
          · injection e4 with e4; subst e4; cases e6
      · cases hc
    · rename_i e1 e2 e3 e4 e5
      injection hc with hc; subst hc
      have hmx : mx = none := by
        cases mx with
        | none => rfl
        | some q => obtain ⟨k, hk, e⟩ := Option.map_eq_some_iff.1 e5; cases e
      subst hmx
      exact ok_sslice h ho e1 e2 e3 e4 hr
    · cases hc
  | indexAddr t x i =>
    rw [ho] at hc
    dsimp only at hc
    split at hc
    · rename_i e1 e2 e3
      obtain ⟨sz, h1, rfl⟩ := Option.map_eq_some_iff.1 hc
      exact ok_iaddr h ho e1 h1 e2 e3 hr
    · cases hc
  | index t x i =>
    rw [ho] at hc
    dsimp only at hc
    split at hc
    · rename_i e1 e2 e3
      injection hc with hc; subst hc
      exact ok_sidx h ho e1 e2 e3 hr
    · rename_i e1 e2 e3
      split at hc
      · rename_i e4 e5
        injection hc with hc; subst hc
        exact ok_aidx h ho e1 e4 e5 e2 e3 hr
      · cases hc
    · cases hc
  | lookup t m k ok =>
    rw [ho] at hc
    dsimp only at hc
    split at hc
    · rename_i e1
      split at hc
      · rename_i e2 e3 e4
        split at hc
        · rename_i e5
          simp only [Bool.and_eq_true] at e5
          obtain ⟨kt, hk, rfl⟩ := Option.map_eq_some_iff.1 hc
          exact ok_look h ho e1 hk e4 e5.2 e5.1 e2 e3 hr
        · cases hc
      · cases hc
    · cases hc
  | mapUpdate t m k x =>
    rw [ho] at hc
    dsimp only at hc
    split at hc
    · rename_i e1
      split at hc
      · rename_i e2 e3 e4
        obtain ⟨kt, hk, rfl⟩ := Option.map_eq_some_iff.1 hc
        exact ok_mupd h (.inl ho) e1 hk e2 e3 e4 hr
      · cases hc
    · cases hc
  | insert t m k x =>
    rw [ho] at hc
    dsimp only at hc
    split at hc
    · rename_i e1
      split at hc
      · rename_i e2 e3 e4
        obtain ⟨kt, hk, rfl⟩ := Option.map_eq_some_iff.1 hc
        exact ok_mupd h (.inr ho) e1 hk e2 e3 e4 hr
      · cases hc
    · cases hc
  | makeFunc fn first cap =>
    rw [ho] at hc
    cases fn with
    | func f =>
      dsimp only at hc
      split at hc
      · rename_i e1
        split at hc
        · cases hc
        · rename_i hf
          split at hc
          · rename_i e2
            injection hc with hc; subst hc
            have : first = #[] := by simpa using e2
            subst this
            exact ok_mkf h ho (by simpa using e1) hf hr
          · split at hc
            · rename_i e3
              injection hc with hc; subst hc
              have : cap = #[] := by simpa using e3
              subst this
              exact ok_mkb h ho (by simpa using e1) hr
            · cases hc
      · cases hc
    | _ => cases hc
  | binOp op t x y t3 =>
    rw [ho] at hc
    have plain : (∀ x' y', opd gl P t x = some x' → opd gl P t y = some y' → v = .bin op x' y' → op ≠ .eql → op ≠ .neq → Runs P o a w (Done w g ob U base (opW v) r)) := by
      intro x' y' h1 h2 e n1 n2
      subst e
      exact ok_binN h ho h1 h2 (fun hh => hh.elim (fun e => absurd e n1) (fun e => absurd e n2)) hr
    by_cases hop : op = .eql ∨ op = .neq
    · have hneg : ∃ neg : Bool, op = (if neg then .neq else .eql) ∧ (op == .neq) = neg := by
        rcases hop with e | e
        · exact ⟨false, e, by rw [e]; rfl⟩
        · exact ⟨true, e, by rw [e]; rfl⟩
      obtain ⟨neg, hn1, hn2⟩ := hneg
      have isPtr : ∀ y : Operand, isNilPtr y = true → y = .const (.pointer none) := by
        intro y hy; unfold isNilPtr at hy; split at hy <;> first | rfl | (cases hy; done)
      have isMap : ∀ y : Operand, isNilMap y = true → y = .const (.map none) := by
        intro y hy; unfold isNilMap at hy; split at hy <;> first | rfl | (cases hy; done)
      have isFun : ∀ y : Operand, isNilFunc y = true → y = .const .nilFunc := by
        intro y hy; unfold isNilFunc at hy; split at hy <;> first | rfl | (cases hy; done)
      have isSl : ∀ y : Operand, isNilSlice y = true → y = .const (.slice none 0 0) := by
        intro y hy; unfold isNilSlice at hy; split at hy <;> first | rfl | (cases hy; done)
      have body : (match P.underlying t with
          | some (.int _) | some .string => match opd gl P t x, opd gl P t y with
            | some x, some y => some (VOp.bin op x y)
            | _, _ => none
          | some .bool => match opd gl P t x, opd gl P t y with
            | some x, some y => some (.binb op x y)
            | _, _ => none
          | some (.struct _) | some (.array _ _) => match keyT P t, opd gl P t x, opd gl P t y with
            | some kt, some x, some y => some (.eqd neg kt x y)
            | _, _, _ => none
          | some (.pointer _) => if isNilPtr y then (opd gl P t x).map (.isnil 0 neg ·) else none
          | some (.map _ _) => if isNilMap y then (opd gl P t x).map (.isnil 1 neg ·) else none
          | some (.func _ _ _) => if isNilFunc y then (opd gl P t x).map (.isnil 2 neg ·) else none
          | some (.slice _) => if isNilSlice y then (opd gl P t x).map (.isnil 3 neg ·) else none
          | _ => none) = some v := by
        rcases hop with e | e <;> subst e <;> rw [← hn2] <;> exact hc
      clear hc
      split at body
      · rename_i k hu
        split at body
        · rename_i e1 e2; injection body with body; subst body
          exact ok_binN h ho e1 e2 (fun _ => .inr (.inr ⟨k, hu⟩)) hr
        · cases body
      · rename_i hu
        split at body
        · rename_i e1 e2; injection body with body; subst body
          exact ok_binN h ho e1 e2 (fun _ => .inr (.inl hu)) hr
        · cases body
      · rename_i hu
        split at body
        · rename_i e1 e2; injection body with body; subst body
          exact ok_bin h ho e1 e2 (fun _ => .inl hu) hr (fun _ _ => hu)
        · cases body
      · rename_i fs hu
        split at body
        · rename_i e1 e2 e3; injection body with body; subst body
          exact ok_eqd h ho hn1 e2 e3 (.inl ⟨fs, hu⟩) e1 hr
        · cases body
      · rename_i n e hu
        split at body
        · rename_i e1 e2 e3; injection body with body; subst body
          exact ok_eqd h ho hn1 e2 e3 (.inr ⟨n, e, hu⟩) e1 hr
        · cases body
      · rename_i e hu
        split at body
        · rename_i hy; obtain ⟨x', e1, rfl⟩ := Option.map_eq_some_iff.1 body
          exact ok_isnil h ho hn1 e1 (.inl ⟨rfl, ⟨e, hu⟩, isPtr y hy⟩) hr
        · cases body
      · rename_i e f hu
        split at body
        · rename_i hy; obtain ⟨x', e1, rfl⟩ := Option.map_eq_some_iff.1 body
          exact ok_isnil h ho hn1 e1 (.inr (.inl ⟨rfl, ⟨e, f, hu⟩, isMap y hy⟩)) hr
        · cases body
      · rename_i p q u hu
        split at body
        · rename_i hy; obtain ⟨x', e1, rfl⟩ := Option.map_eq_some_iff.1 body
          exact ok_isnil h ho hn1 e1 (.inr (.inr (.inl ⟨rfl, ⟨p, q, u, hu⟩, isFun y hy⟩))) hr
        · cases body
      · rename_i e hu
        split at body
        · rename_i hy; obtain ⟨x', e1, rfl⟩ := Option.map_eq_some_iff.1 body
          exact ok_isnil h ho hn1 e1 (.inr (.inr (.inr ⟨rfl, ⟨e, hu⟩, isSl y hy⟩))) hr
        · cases body
      · cases body
    · have n1 : op ≠ .eql := fun e => hop (.inl e)
      have n2 : op ≠ .neq := fun e => hop (.inr e)
      dsimp only at hc
      split at hc
      · exact absurd rfl n1
      · exact absurd rfl n2
      · split at hc
        · rename_i e1 e2
          injection hc with hc
          exact plain _ _ e1 e2 hc.symm n1 n2
        · cases hc
  | call c =>
    rw [ho] at hc
    have hc : compCall gl P c = some v := hc
    unfold compCall at hc
    split at hc
    · rename_i f hcal
      obtain ⟨ys, h1, rfl⟩ := Option.map_eq_some_iff.1 hc
      exact ok_call hcall h (fun n hn hh => hb n hh.1 hh.2 hn) ho hcal h1 hr
    · rename_i t hcal
      obtain ⟨ys, h1, rfl⟩ := Option.map_eq_some_iff.1 hc
      exact ok_callv hcall h (fun n hn hh => hb n hh.1 hh.2 hn) ho hcal h1 hr
    · rename_i hcal
      split at hc
      · rename_i x y tx ty ha ht
        have ho' : o.op = .call { callee := .builtin .append, args := #[x, y], argTypes := #[tx, ty] } := by
          rw [ho]; congr 1; cases c; dsimp only at hcal ha ht ⊢; subst hcal; congr 1 <;> exact Array.ext' (by simpa using (by assumption))
        split at hc
        · rename_i e1 e2
          split at hc
          · rename_i f1 f2 f3 f4
            split at hc
            · rename_i hh
              injection hc with hc; subst hc
              obtain ⟨k1, k2, k3, k4⟩ := hh
              subst k3
              exact ok_app h hb (Nat.le_refl _) ho' e1 e1 f1 f2 k4 k2 k1 f3 f4 hr
            · cases hc
          · cases hc
        · cases hc
      · cases hc
    · rename_i hcal
      split at hc
      · rename_i x t ha ht
        have ho' : o.op = .call { callee := .builtin .len, args := #[x], argTypes := #[t] } := by
          rw [ho]; congr 1; cases c; dsimp only at hcal ha ht ⊢; subst hcal; congr 1 <;> exact Array.ext' (by simpa using (by assumption))
        split at hc
        · rename_i e1
          obtain ⟨x', f1, rfl⟩ := Option.map_eq_some_iff.1 hc
          exact ok_len h ho' f1 (.inl ⟨rfl, e1⟩) hr
        · rename_i e e1
          obtain ⟨x', f1, rfl⟩ := Option.map_eq_some_iff.1 hc
          exact ok_len h ho' f1 (.inr (.inl ⟨rfl, e, e1⟩)) hr
        · rename_i e f e1
          obtain ⟨x', f1, rfl⟩ := Option.map_eq_some_iff.1 hc
          exact ok_len h ho' f1 (.inr (.inr ⟨rfl, e, f, e1⟩)) hr
        · cases hc
      · cases hc
    · rename_i hcal
      split at hc
      · rename_i m k tm tk ha ht
        have ho' : o.op = .call { callee := .builtin .delete, args := #[m, k], argTypes := #[tm, tk] } := by
          rw [ho]; congr 1; cases c; dsimp only at hcal ha ht ⊢; subst hcal; congr 1 <;> exact Array.ext' (by simpa using (by assumption))
        split at hc
        · rename_i e1
          split at hc
          · rename_i f1 f2
            obtain ⟨kt, hk, rfl⟩ := Option.map_eq_some_iff.1 hc
            exact ok_delete h ho' e1 hk f1 f2 hr
          · cases hc
        · cases hc
      · cases hc
    · rename_i hcal
      split at hc
      · rename_i x' y' ha
        injection hc with hc; subst hc
        obtain ⟨x, y, t1, t2, ea, h1, h2⟩ := args_two ha
        have ho' : o.op = .call { callee := .builtin (if true then .max else .min), args := #[x, y], argTypes := c.argTypes } := by
          rw [ho]; congr 1; cases c; dsimp only at hcal ea ⊢; subst hcal; congr 1; exact Array.ext' (by simpa using ea)
        exact ok_minmax h ho' h1 h2 hr
      · cases hc
    · rename_i hcal
      split at hc
      · rename_i x' y' ha
        injection hc with hc; subst hc
        obtain ⟨x, y, t1, t2, ea, h1, h2⟩ := args_two ha
        have ho' : o.op = .call { callee := .builtin (if false then .max else .min), args := #[x, y], argTypes := c.argTypes } := by
          rw [ho]; congr 1; cases c; dsimp only at hcal ea ⊢; subst hcal; congr 1; exact Array.ext' (by simpa using ea)
        exact ok_minmax h ho' h1 h2 hr
      · cases hc
    · cases hc
  | _ => rw [ho] at hc; cases hc
end
end Go.V

set_option linter.unusedVariables false
set_option linter.unusedSimpArgs false
namespace Go.V

theorem ev_local {fr fr2 : Fr} {x : Opd} (h : ∀ t ∈ x.slots, fget fr2 t = fget fr t) : x.ev fr2 = x.ev fr := by
  cases x with
  | t n => exact h n (List.mem_singleton.2 rfl)
  | c v => rfl
theorem evL_local {fr fr2 : Fr} : ∀ {l : List Opd}, (∀ t ∈ slotsL l, fget fr2 t = fget fr t) → evL fr2 l = evL fr l
  | [], _ => rfl
  | x :: l, h => by
    show x.ev fr2 :: evL fr2 l = x.ev fr :: evL fr l
    rw [ev_local fun t ht => h t (List.mem_append.2 (.inl ht)), evL_local fun t ht => h t (List.mem_append.2 (.inr ht))]
theorem evO_local {fr fr2 : Fr} {x : Option Opd} (h : ∀ t ∈ slotsO x, fget fr2 t = fget fr t) : evO fr2 x = evO fr x := by
  cases x with
  | none => rfl
  | some x => exact congrArg some (ev_local h)
theorem fill_local {fr fr2 : Fr} : ∀ {l : List (Nat × Nat × Opd)} {cs : List AV}, (∀ t ∈ slotsP l, fget fr2 t = fget fr t) → fillParts fr2 cs l = fillParts fr cs l
  | [], _, _ => rfl
  | (off, n, x) :: l, cs, h => by
    unfold fillParts
    rw [ev_local fun t ht => h t (List.mem_append.2 (.inl ht)), fill_local fun t ht => h t (List.mem_append.2 (.inr ht))]

theorem stepOp_fr (att : Nat → Attr) (call : CallT) (base : Nat) (fr fr2 : Fr) (ob : Objs) (v : VOp) (h : ∀ t ∈ vReads v, fget fr2 t = fget fr t) : stepOp att call base fr2 ob v = stepOp att call base fr ob v := by
  cases v with
  | pick c a b => simp only [stepOp]; rw [ev_local fun t ht => h t (List.mem_append.2 (.inl ht)), ev_local fun t ht => h t (List.mem_append.2 (.inr (List.mem_append.2 (.inl ht)))), ev_local fun t ht => h t (List.mem_append.2 (.inr (List.mem_append.2 (.inr ht))))]
  | mupd kt m k x => simp only [stepOp]; rw [ev_local fun t ht => h t (List.mem_append.2 (.inl ht)), ev_local fun t ht => h t (List.mem_append.2 (.inr (List.mem_append.2 (.inl ht)))), ev_local fun t ht => h t (List.mem_append.2 (.inr (List.mem_append.2 (.inr ht))))]
  | slice sz x lo hi mx => simp only [stepOp]; rw [ev_local fun t ht => h t (List.mem_append.2 (.inl ht)), evO_local fun t ht => h t (List.mem_append.2 (.inr (List.mem_append.2 (.inl ht)))), evO_local fun t ht => h t (List.mem_append.2 (.inr (List.mem_append.2 (.inr (List.mem_append.2 (.inl ht)))))), evO_local fun t ht => h t (List.mem_append.2 (.inr (List.mem_append.2 (.inr (List.mem_append.2 (.inr ht))))))]
  | sslice x lo hi => simp only [stepOp]; rw [ev_local fun t ht => h t (List.mem_append.2 (.inl ht)), evO_local fun t ht => h t (List.mem_append.2 (.inr (List.mem_append.2 (.inl ht)))), evO_local fun t ht => h t (List.mem_append.2 (.inr (List.mem_append.2 (.inr ht))))]
  | callv x args => simp only [stepOp]; rw [ev_local fun t ht => h t (List.mem_append.2 (.inl ht)), evL_local fun t ht => h t (List.mem_append.2 (.inr ht))]
  | build z ps => simp only [stepOp]; rw [fill_local h]
  | bslice _ _ | mkf _ _ | call _ _ => simp only [stepOp]; rw [evL_local h]
  | alloc _ | mkmap => rfl
  | store _ _ _ | bin _ _ _ | binb _ _ _ | eqd _ _ _ _ | mkslice _ _ _ _ _ | iaddr _ _ _ | sidx _ _ | aidx _ _ _ _ _ | look _ _ _ _ _ | app _ _ _ _ | delete _ _ _ | mx _ _ | mn _ _ =>
    simp only [stepOp]; rw [ev_local fun t ht => h t (List.mem_append.2 (.inl ht)), ev_local fun t ht => h t (List.mem_append.2 (.inr ht))]
  | _ => simp only [stepOp]; rw [ev_local h]

/-! ### objects -/
section
variable {ob ob2 : Objs}
abbrev Agree (ob ob2 : Objs) (l : List Nat) : Prop := ∀ o ∈ l, oget ob2 o = oget ob o
theorem Agree.left {a b : List Nat} (h : Agree ob ob2 (a ++ b)) : Agree ob ob2 a := fun o ho => h o (List.mem_append.2 (.inl ho))
theorem Agree.right {a b : List Nat} (h : Agree ob ob2 (a ++ b)) : Agree ob ob2 b := fun o ho => h o (List.mem_append.2 (.inr ho))
theorem Agree.head {x : Nat} {b : List Nat} (h : Agree ob ob2 (x :: b)) : oget ob2 x = oget ob x := h x List.mem_cons_self
theorem Agree.tail {x : Nat} {b : List Nat} (h : Agree ob ob2 (x :: b)) : Agree ob ob2 b := fun o ho => h o (List.mem_cons_of_mem _ ho)

theorem toD_local {v : AV} (h : Agree ob ob2 v.ownNames) : v.toD ob2 = v.toD ob := by
  cases v <;> first | rfl | skip
  rename_i o
  show (match oget ob2 o with | some (.arr sz xs _) => some (Data.sl sz xs) | _ => none) = _
  rw [h.head]; rfl
theorem allToD_local : ∀ {l : List AV}, Agree ob ob2 (ownNamesL l) → allSome (AV.toD ob2) l = allSome (AV.toD ob) l
  | [], _ => rfl
  | v :: l, h => by
    unfold allSome
    rw [toD_local (v := v) h.left, allToD_local h.right]
theorem toData_local {v : AV} (h : Agree ob ob2 v.shared) : v.toData ob2 = v.toData ob := by
  cases v with
  | agg cs => show (allSome (AV.toD ob2) cs).map _ = _; rw [allToD_local h]; rfl
  | any => exact toD_local (v := .any) h
  | d x => exact toD_local (v := .d x) h
  | tup vs => exact toD_local (v := .tup vs) h
  | nils n => exact toD_local (v := .nils n) h
  | lim n xs => exact toD_local (v := .lim n xs) h
  | nn nb n xs => exact toD_local (v := .nn nb n xs) h
  | own o => exact toD_local (v := .own o) h
  | ptr o f => exact toD_local (v := .ptr o f) h
  | eptr cs => exact toD_local (v := .eptr cs) h
  | optr o i f => exact toD_local (v := .optr o i f) h
  | clos f cs => exact toD_local (v := .clos f cs) h
  | mref o => exact toD_local (v := .mref o) h
  | gptr g f => exact toD_local (v := .gptr g f) h
theorem allToData_local : ∀ {l : List AV}, Agree ob ob2 (sharedL l) → allSome (AV.toData ob2) l = allSome (AV.toData ob) l
  | [], _ => rfl
  | v :: l, h => by
    unfold allSome
    rw [toData_local (v := v) h.left, allToData_local h.right]
theorem shareUpd_local : ∀ {l : List Nat}, Agree ob ob2 l → shareUpd ob2 l = shareUpd ob l
  | [], _ => rfl
  | o :: l, h => by
    unfold shareUpd
    rw [h.head, shareUpd_local h.tail]

theorem own_in_names : ∀ {v : AV} {o : Nat}, o ∈ v.ownNames → o ∈ v.names
  | .own _, _, h => h
  | .any, _, h | .d _, _, h | .agg _, _, h | .tup _, _, h | .nils _, _, h | .lim _ _, _, h | .nn _ _ _, _, h | .ptr _ _, _, h | .eptr _, _, h | .optr _ _ _, _, h | .clos _ _, _, h | .mref _, _, h | .gptr _ _, _, h => by cases h
theorem ownL_in_names : ∀ {l : List AV} {o : Nat}, o ∈ ownNamesL l → o ∈ namesL l
  | v :: l, o, h => by
    rcases List.mem_append.1 (show o ∈ v.ownNames ++ ownNamesL l from h) with h | h
    · exact List.mem_append.2 (.inl (own_in_names h))
    · exact List.mem_append.2 (.inr (ownL_in_names h))
theorem shared_in_names {v : AV} {o : Nat} (h : o ∈ v.shared) : o ∈ v.names := by
  cases v with
  | agg cs => exact ownL_in_names h
  | _ => exact own_in_names h
theorem sharedL_in_names : ∀ {l : List AV} {o : Nat}, o ∈ sharedL l → o ∈ namesL l
  | v :: l, o, h => by
    rcases List.mem_append.1 (show o ∈ v.shared ++ sharedL l from h) with h | h
    · exact List.mem_append.2 (.inl (shared_in_names h))
    · exact List.mem_append.2 (.inr (sharedL_in_names h))

theorem viewC_local {v : AV} (h : Agree ob ob2 v.ownNames) : v.viewC ob2 = v.viewC ob := by
  unfold AV.viewC; rw [toD_local h]
theorem viewL_local : ∀ {l : List AV}, Agree ob ob2 (ownNamesL l) → viewL ob2 l = viewL ob l
  | [], _ => rfl
  | v :: l, h => by
    unfold viewL; rw [viewC_local (v := v) h.left, viewL_local h.right]
theorem view_local {v : AV} (h : Agree ob ob2 v.shared) : v.view ob2 = v.view ob := by
  cases v with
  | agg cs => show mkAgg (viewL ob2 cs) = mkAgg (viewL ob cs); rw [viewL_local h]
  | any => exact viewC_local (v := .any) h
  | d x => exact viewC_local (v := .d x) h
  | tup vs => exact viewC_local (v := .tup vs) h
  | nils n => exact viewC_local (v := .nils n) h
  | lim n xs => exact viewC_local (v := .lim n xs) h
  | nn nb n xs => exact viewC_local (v := .nn nb n xs) h
  | own o => exact viewC_local (v := .own o) h
  | ptr o f => exact viewC_local (v := .ptr o f) h
  | eptr cs => exact viewC_local (v := .eptr cs) h
  | optr o i f => exact viewC_local (v := .optr o i f) h
  | clos f cs => exact viewC_local (v := .clos f cs) h
  | mref o => exact viewC_local (v := .mref o) h
  | gptr g f => exact viewC_local (v := .gptr g f) h
theorem viewArgs_local : ∀ {l : List AV}, Agree ob ob2 (sharedL l) → viewArgs ob2 l = viewArgs ob l
  | [], _ => rfl
  | v :: l, h => by
    unfold viewArgs; rw [view_local (v := v) h.left, viewArgs_local h.right]

theorem namesL_mkAgg (l : List AV) : ∀ o ∈ (mkAgg l).names, o ∈ namesL l := by
  intro o ho
  unfold mkAgg at ho
  cases h : allD l with
  | some x => rw [h] at ho; cases ho
  | none => rw [h] at ho; exact ho
theorem viewC_names {v : AV} : ∀ o ∈ (v.viewC ob).names, o ∈ v.names := by
  intro o ho
  unfold AV.viewC at ho
  cases h : v.toD ob with
  | some x => rw [h] at ho; cases ho
  | none => rw [h] at ho; exact ho
theorem viewL_names : ∀ {l : List AV}, ∀ o ∈ namesL (viewL ob l), o ∈ namesL l
  | [], o, h => h
  | v :: l, o, h => by
    rcases List.mem_append.1 (show o ∈ (v.viewC ob).names ++ namesL (viewL ob l) from h) with h | h
    · exact List.mem_append.2 (.inl (viewC_names o h))
    · exact List.mem_append.2 (.inr (viewL_names o h))
theorem view_names {v : AV} : ∀ o ∈ (v.view ob).names, o ∈ v.names := by
  intro o ho
  cases v with
  | agg cs => exact viewL_names o (namesL_mkAgg _ o ho)
  | any => exact viewC_names (ob := ob) (v := .any) _ ho
  | d x => exact viewC_names (ob := ob) (v := .d x) _ ho
  | tup vs => exact viewC_names (ob := ob) (v := .tup vs) _ ho
  | nils n => exact viewC_names (ob := ob) (v := .nils n) _ ho
  | lim n xs => exact viewC_names (ob := ob) (v := .lim n xs) _ ho
  | nn nb n xs => exact viewC_names (ob := ob) (v := .nn nb n xs) _ ho
  | own o => exact viewC_names (ob := ob) (v := .own o) _ ho
  | ptr o f => exact viewC_names (ob := ob) (v := .ptr o f) _ ho
  | eptr cs => exact viewC_names (ob := ob) (v := .eptr cs) _ ho
  | optr o i f => exact viewC_names (ob := ob) (v := .optr o i f) _ ho
  | clos f cs => exact viewC_names (ob := ob) (v := .clos f cs) _ ho
  | mref o => exact viewC_names (ob := ob) (v := .mref o) _ ho
  | gptr g f => exact viewC_names (ob := ob) (v := .gptr g f) _ ho
theorem viewArgs_names : ∀ {l : List AV}, ∀ o ∈ namesL (viewArgs ob l), o ∈ namesL l
  | [], o, h => h
  | v :: l, o, h => by
    rcases List.mem_append.1 (show o ∈ (v.view ob).names ++ namesL (viewArgs ob l) from h) with h | h
    · exact List.mem_append.2 (.inl (view_names o h))
    · exact List.mem_append.2 (.inr (viewArgs_names o h))

theorem reach_seen : ∀ (fuel : Nat) (todo seen : List Nat), ∀ o ∈ seen, o ∈ reach ob fuel todo seen
  | 0, _, _, o, h => h
  | _ + 1, [], _, o, h => h
  | n + 1, x :: todo, seen, o, h => by
    unfold reach
    cases mem x seen with
    | true => exact reach_seen n todo seen o h
    | false =>
      cases oget ob x with
      | none => exact reach_seen n todo seen o h
      | some y => exact reach_seen n _ _ o (List.mem_append.2 (.inl h))
theorem namesObs_mem : ∀ {l : List Nat} {o p : Nat} {x : AObj}, p ∈ l → oget ob p = some x → o ∈ x.names → o ∈ namesObs ob l
  | q :: l, o, p, x, hp, hx, ho => by
    unfold namesObs
    rcases List.mem_cons.1 hp with e | hp
    · subst e; rw [hx]; exact List.mem_append.2 (.inl ho)
    · exact List.mem_append.2 (.inr (namesObs_mem hp hx ho))
theorem reach_local : ∀ (fuel : Nat) (todo seen : List Nat), Agree ob ob2 todo → Agree ob ob2 (namesObs ob (reach ob fuel todo seen)) → reach ob2 fuel todo seen = reach ob fuel todo seen
  | 0, _, _, _, _ => rfl
  | _ + 1, [], _, _, _ => rfl
  | n + 1, x :: todo, seen, h, k => by
    unfold reach at k ⊢
    cases hm : mem x seen with
    | true => rw [hm] at k; exact reach_local n todo seen h.tail k
    | false =>
      rw [hm] at k
      dsimp only at k ⊢
      rw [h.head]
      cases hx : oget ob x with
      | none => rw [hx] at k; exact reach_local n todo seen h.tail k
      | some y =>
        rw [hx] at k
        refine reach_local n _ _ (fun o ho => ?_) k
        rcases List.mem_append.1 ho with ho | ho
        · exact k o (namesObs_mem (p := x) (reach_seen n _ _ x (List.mem_append.2 (.inr (List.mem_singleton.2 rfl)))) hx ho)
        · exact h.tail o ho

theorem oget_app2 {sh : Objs} {o : Nat} (h : oget ob2 o = oget ob o) : oget (sh ++ ob2) o = oget (sh ++ ob) o := by
  rw [oget_append, oget_append, h]
theorem subObjs_local {sh : Objs} {ρ : Nat → Option Nat} : ∀ {l : List Nat} {i : Nat}, Agree ob ob2 l → subObjs (sh ++ ob2) ρ i l = subObjs (sh ++ ob) ρ i l
  | [], _, _ => rfl
  | o :: l, i, h => by
    unfold subObjs; rw [oget_app2 h.head, subObjs_local h.tail]

theorem callIn_rd {a : Attr} {call : CallT} {base f : Nat} {args : List AV} {sh : Objs} {rd names : List Nat} {r : R} (h : callIn a call base f args ob sh rd names = some r) : r.rd = names ++ rd := by
  obtain ⟨p, _, h⟩ := obind_eq h
  obtain ⟨_, h⟩ := need_some h
  injection h with h; subst h; rfl
theorem callIn_local {a : Attr} {call : CallT} {base f : Nat} {args : List AV} {sh : Objs} {rd names : List Nat} (h : Agree ob ob2 names) : callIn a call base f args ob2 sh rd names = callIn a call base f args ob sh rd names := by
  unfold callIn; rw [subObjs_local h]

theorem doCall_local {a : Attr} {call : CallT} {base f : Nat} {args : List AV} {r : R} (h : doCall a call base f args ob = some r) (k : Agree ob ob2 r.rd) : doCall a call base f args ob2 = some r := by
  unfold doCall at h ⊢
  cases hb : a.byref with
  | true =>
    rw [hb] at h
    have h' : callIn a call base f args ob [] (looked ob args (reach ob fuelC (namesL args) [])) (reach ob fuelC (namesL args) []) = some r := h
    have e := callIn_rd h'
    rw [e] at k
    have k1 : Agree ob ob2 (namesL args) := k.right.left
    have k2 := k.right.right
    have er := reach_local fuelC (namesL args) [] k1 k2
    show callIn a call base f args ob2 [] (looked ob2 args (reach ob2 fuelC (namesL args) [])) (reach ob2 fuelC (namesL args) []) = some r
    rw [er, callIn_local k.left]
    have el : looked ob2 args (reach ob fuelC (namesL args) []) = looked ob args (reach ob fuelC (namesL args) []) := by
      unfold looked
      congr 1
      have : ∀ l : List Nat, Agree ob ob2 l → namesObs ob2 l = namesObs ob l := by
        intro l
        induction l with
        | nil => exact fun _ => rfl
        | cons q l ih => intro hl; unfold namesObs; rw [hl.head, ih hl.tail]
      exact this _ k.left
    rw [el]; exact h'
  | false =>
    rw [hb] at h
    have h' : callIn a call base f (viewArgs ob args) ob (shareUpd ob (sharedL args)) (looked ob args (reach ob fuelC (namesL (viewArgs ob args)) [])) (reach ob fuelC (namesL (viewArgs ob args)) []) = some r := h
    have e := callIn_rd h'
    rw [e] at k
    have k1 : Agree ob ob2 (namesL args) := k.right.left
    have k2 := k.right.right
    have ks : Agree ob ob2 (sharedL args) := fun o ho => k1 o (sharedL_in_names ho)
    show callIn a call base f (viewArgs ob2 args) ob2 (shareUpd ob2 (sharedL args)) (looked ob2 args (reach ob2 fuelC (namesL (viewArgs ob2 args)) [])) (reach ob2 fuelC (namesL (viewArgs ob2 args)) []) = some r
    rw [viewArgs_local ks, shareUpd_local ks]
    have er := reach_local fuelC (namesL (viewArgs ob args)) [] (fun o ho => k1 o (viewArgs_names o ho)) k2
    rw [er, callIn_local k.left]
    have el : looked ob2 args (reach ob fuelC (namesL (viewArgs ob args)) []) = looked ob args (reach ob fuelC (namesL (viewArgs ob args)) []) := by
      unfold looked
      congr 1
      have : ∀ l : List Nat, Agree ob ob2 l → namesObs ob2 l = namesObs ob l := by
        intro l
        induction l with
        | nil => exact fun _ => rfl
        | cons q l ih => intro hl; unfold namesObs; rw [hl.head, ih hl.tail]
      exact this _ k.left
    rw [el]; exact h'
end

section
variable {ob ob2 : Objs} {r : R}
theorem loadR_local {agg : Bool} {n : Nat} {a : AV} (h : loadR agg n ob a = some r) (k : Agree ob ob2 r.rd) : loadR agg n ob2 a = some r := by
  cases a with
  | ptr o off =>
    have hr : o ∈ r.rd := by
      have h' : loadBox agg n o off (oget ob o) = some r := h
      cases hx : oget ob o with
      | none => rw [hx] at h'; cases h'
      | some x =>
        rw [hx] at h'
        cases x with
        | box cs => obtain ⟨v, _, h'⟩ := obind_eq h'; injection h' with h'; subst h'; exact List.mem_singleton.2 rfl
        | _ => cases h'
    show loadBox agg n o off (oget ob2 o) = some r
    rw [k o hr]; exact h
  | optr o i off =>
    have hr : o ∈ r.rd := by
      have h' : loadArr agg n o i off (oget ob o) = some r := h
      cases hx : oget ob o with
      | none => rw [hx] at h'; cases h'
      | some x =>
        rw [hx] at h'
        cases x with
        | arr sz xs u =>
          have h' : loadElem agg n o off xs[i]? = some r := h'
          cases hi : xs[i]? with
          | none => rw [hi] at h'; cases h'
          | some y => rw [hi] at h'; obtain ⟨v, _, h'⟩ := obind_eq h'; injection h' with h'; subst h'; exact List.mem_singleton.2 rfl
        | _ => cases h'
    show loadArr agg n o i off (oget ob2 o) = some r
    rw [k o hr]; exact h
  | _ => exact h
theorem storeR_local {n : Nat} {a v : AV} (h : storeR n ob a v = some r) (k : Agree ob ob2 r.rd) : storeR n ob2 a v = some r := by
  obtain ⟨h0, h1⟩ := need_some h
  unfold storeR
  rw [h0]
  rw [need_true]
  cases a with
  | ptr o off =>
    have hr : o ∈ r.rd := by
      have h' : storeBox n o off v (oget ob o) = some r := h1
      cases hx : oget ob o with
      | none => rw [hx] at h'; cases h'
      | some x =>
        rw [hx] at h'
        cases x with
        | box cs => obtain ⟨_, h'⟩ := need_some h'; injection h' with h'; subst h'; exact List.mem_singleton.2 rfl
        | _ => cases h'
    show storeBox n o off v (oget ob2 o) = some r
    rw [k o hr]; exact h1
  | optr o i off =>
    have h' : storeArr n o i off v ob (oget ob o) = some r := h1
    cases hx : oget ob o with
    | none => rw [hx] at h'; cases h'
    | some x =>
      rw [hx] at h'
      cases x with
      | arr sz xs u =>
        cases u with
        | false => cases h'
        | true =>
          obtain ⟨hm, h2⟩ := need_some (show need (!mem o (ownNamesL v.cells)) (storeElem n o i off sz xs v (shareUpd ob (ownNamesL v.cells)) xs[i]? (allSome (AV.toD ob) v.cells)) = some r from h')
          have hr : r.rd = o :: ownNamesL v.cells := by
            have h2' := h2
            cases hi : xs[i]? with
            | none => rw [hi] at h2'; cases h2'
            | some y =>
              rw [hi] at h2'
              cases hd : allSome (AV.toD ob) v.cells with
              | none => rw [hd] at h2'; cases h2'
              | some ds =>
                rw [hd] at h2'
                obtain ⟨_, h2'⟩ := need_some h2'
                injection h2' with h2'; subst h2'; rfl
          rw [hr] at k
          show storeArr n o i off v ob2 (oget ob2 o) = some r
          rw [k.head, hx]
          show need (!mem o (ownNamesL v.cells)) (storeElem n o i off sz xs v (shareUpd ob2 (ownNamesL v.cells)) xs[i]? (allSome (AV.toD ob2) v.cells)) = some r
          rw [shareUpd_local k.tail, allToD_local k.tail, hm]
          exact h2
      | _ => cases h'
  | _ => cases h1
theorem sliceR_local {sz : Nat} {lo hi mx : Option (Option Nat)} {a : AV} (h : sliceR sz ob lo hi mx a = some r) (k : Agree ob ob2 r.rd) : sliceR sz ob2 lo hi mx a = some r := by
  cases lo with
  | none => cases h
  | some lo => cases hi with
    | none => cases h
    | some hi => cases mx with
      | none => cases h
      | some mx =>
        cases a with
        | own o =>
          have h' : sliceOwn sz o ob lo hi mx (oget ob o) = some r := h
          cases hx : oget ob o with
          | none => rw [hx] at h'; cases h'
          | some x =>
            rw [hx] at h'
            cases x with
            | arr sz' xs u =>
              obtain ⟨h1, h2⟩ := need_some (show need (Nat.beq sz sz') (obind (sliceData sz' xs (lo.getD 0) (hi.getD xs.length) mx) fun v => some ⟨v, shareUpd ob [o], [o]⟩) = some r from h')
              obtain ⟨v, h3, h4⟩ := obind_eq h2
              injection h4 with h4; subst h4
              show sliceOwn sz o ob2 lo hi mx (oget ob2 o) = _
              rw [Agree.head k, hx]
              show need (Nat.beq sz sz') (obind (sliceData sz' xs (lo.getD 0) (hi.getD xs.length) mx) fun v => some (R.mk v (shareUpd ob2 [o]) [o])) = _
              rw [shareUpd_local k, h1, h3]; rfl
            | _ => cases h'
        | d x => cases x <;> exact h
        | nils _ => exact h
        | _ => cases h
theorem faddrR_local {off : Nat} {a : AV} (h : faddrR off ob a = some r) (k : Agree ob ob2 r.rd) : faddrR off ob2 a = some r := by
  cases a with
  | optr o i p =>
    have h' : faddrArr off o i p (oget ob o) = some r := h
    have hr : o ∈ r.rd := by
      cases hx : oget ob o with
      | none => rw [hx] at h'; cases h'
      | some x => rw [hx] at h'; cases x <;> first | (cases h'; done) | (injection h' with h'; subst h'; exact List.mem_singleton.2 rfl)
    show faddrArr off o i p (oget ob2 o) = some r
    rw [k o hr]; exact h
  | _ => exact h
theorem iaddrR_local {sz : Nat} {a i : AV} (h : iaddrR sz ob a i = some r) (k : Agree ob ob2 r.rd) : iaddrR sz ob2 a i = some r := by
  unfold iaddrR at h
  split at h
  · rename_i o kk n
    obtain ⟨h1, h2⟩ := need_some h
    have hr : o ∈ r.rd := by
      cases hx : oget ob o with
      | none => rw [hx] at h2; cases h2
      | some x => rw [hx] at h2; cases x <;> first | (cases h2; done) | (obtain ⟨_, h2⟩ := need_some h2; injection h2 with h2; subst h2; exact List.mem_singleton.2 rfl)
    show need (decide (0 ≤ n)) (iaddrOwn sz o n (oget ob2 o)) = some r
    rw [k o hr]; exact h
  · exact h
  · exact h
  · cases h
theorem lookR_local {z : Data} {ok : Bool} {kt : KT} {m key : AV} (h : lookR z ok kt ob m key = some r) (k : Agree ob ob2 r.rd) : lookR z ok kt ob2 m key = some r := by
  unfold lookR at h
  split at h
  · rename_i o x
    obtain ⟨h1, h2⟩ := need_some h
    have hr : o ∈ r.rd := by
      cases hx : oget ob o with
      | none => rw [hx] at h2; cases h2
      | some y => rw [hx] at h2; cases y <;> first | (cases h2; done) | (obtain ⟨_, _, h2⟩ := obind_eq h2; injection h2 with h2; subst h2; exact List.mem_singleton.2 rfl)
    show need (kt.ok x) (lookMap z ok o x (oget ob2 o)) = some r
    rw [k o hr]; exact h
  · exact h
  · cases h
theorem mupdR_local {kt : KT} {m key v : AV} (h : mupdR kt ob m key (v.toData ob) v = some r) (k : Agree ob ob2 r.rd) : mupdR kt ob2 m key (v.toData ob2) v = some r := by
  cases m with
  | mref o =>
    cases key with
    | d x =>
      cases hd : v.toData ob with
      | none => rw [hd] at h; cases h
      | some val =>
        rw [hd] at h
        have h' : need (kt.ok x) (mupdMap o x val (shareUpd ob v.shared) v.shared (oget ob o)) = some r := h
        obtain ⟨h1, h2⟩ := need_some h'
        cases hx : oget ob o with
        | none => rw [hx] at h2; cases h2
        | some y =>
          rw [hx] at h2
          cases y with
          | map es =>
            obtain ⟨es', h3, h4⟩ := obind_eq h2
            injection h4 with h4; subst h4
            rw [toData_local (Agree.tail k), hd]
            show need (kt.ok x) (mupdMap o x val (shareUpd ob2 v.shared) v.shared (oget ob2 o)) = _
            rw [shareUpd_local (Agree.tail k), Agree.head k, h1, hx]
            show obind (mapPut x val es) _ = _
            rw [h3]; rfl
          | _ => cases h2
    | _ => cases h
  | _ => cases h
theorem lenR_local {kd : Nat} {a : AV} (h : lenR ob kd a = some r) (k : Agree ob ob2 r.rd) : lenR ob2 kd a = some r := by
  unfold lenR at h
  split at h
  · exact h
  · exact h
  · exact h
  · exact h
  · rename_i o
    have hr : o ∈ r.rd := by
      cases hx : oget ob o with
      | none => rw [hx] at h; cases h
      | some x => rw [hx] at h; cases x <;> first | (cases h; done) | (injection h with h; subst h; exact List.mem_singleton.2 rfl)
    show lenArr o (oget ob2 o) = some r
    rw [k o hr]; exact h
  · exact h
  · rename_i o
    have hr : o ∈ r.rd := by
      cases hx : oget ob o with
      | none => rw [hx] at h; cases h
      | some x => rw [hx] at h; cases x <;> first | (cases h; done) | (injection h with h; subst h; exact List.mem_singleton.2 rfl)
    show lenMap o (oget ob2 o) = some r
    rw [k o hr]; exact h
  · cases h
theorem deleteR_local {kt : KT} {m key : AV} (h : deleteR kt ob m key = some r) (k : Agree ob ob2 r.rd) : deleteR kt ob2 m key = some r := by
  cases m with
  | mref o =>
    cases key with
    | d x =>
      have h' : need (kt.ok x) (delMap o x (oget ob o)) = some r := h
      obtain ⟨h1, h2⟩ := need_some h'
      have hr : o ∈ r.rd := by
        cases hx : oget ob o with
        | none => rw [hx] at h2; cases h2
        | some y => rw [hx] at h2; cases y <;> first | (cases h2; done) | (obtain ⟨_, _, h2⟩ := obind_eq h2; injection h2 with h2; subst h2; exact List.mem_singleton.2 rfl)
      show need (kt.ok x) (delMap o x (oget ob2 o)) = some r
      rw [k o hr]; exact h'
    | _ => cases h
  | _ => cases h
theorem bsliceR_local {sz base : Nat} {vs : List AV} (h : bsliceR sz base vs ob = some r) (k : Agree ob ob2 r.rd) : bsliceR sz base vs ob2 = some r := by
  obtain ⟨xs, h1, h2⟩ := obind_eq h
  obtain ⟨h3, h4⟩ := need_some h2
  injection h4 with h4; subst h4
  have k' : Agree ob ob2 (sharedL vs) := k
  unfold bsliceR
  rw [allToData_local k', h1]
  show need (sizesOk sz xs) _ = _
  rw [h3, shareUpd_local k']; rfl
theorem appR_local {sz bytes base : Nat} {x y : AV} (h : appR sz bytes base ob x y.ownNames (y.toD ob) = some r) (k : Agree ob ob2 r.rd) : appR sz bytes base ob2 x y.ownNames (y.toD ob2) = some r := by
  cases hd : y.toD ob with
  | none => rw [hd] at h; cases h
  | some d =>
    rw [hd] at h
    cases d with
    | sl sz' ys =>
      obtain ⟨h1, h2⟩ := need_some (show need (sizesOk sz ys) (appX sz bytes base ys y.ownNames ob x) = some r from h)
      have fin : Agree ob ob2 y.ownNames → appX sz bytes base ys y.ownNames ob2 x = some r → appR sz bytes base ob2 x y.ownNames (y.toD ob2) = some r := by
        intro ka kb
        rw [toD_local ka, hd]
        show need (sizesOk sz ys) (appX sz bytes base ys y.ownNames ob2 x) = some r
        rw [h1]; exact kb
      cases x with
      | own o =>
        have h2' : appOwn sz bytes base o ys y.ownNames (oget ob o) = some r := h2
        cases hx : oget ob o with
        | none => rw [hx] at h2'; cases h2'
        | some z =>
          rw [hx] at h2'
          cases z with
          | arr sz1 xs u =>
            obtain ⟨h3, h4⟩ := need_some h2'
            injection h4 with h4; subst h4
            refine fin (Agree.tail k) ?_
            show appOwn sz bytes base o ys y.ownNames (oget ob2 o) = _
            rw [Agree.head k, hx]; exact h2'
          | _ => cases h2'
      | nils _ =>
        obtain ⟨h3, h4⟩ := need_some h2
        injection h4 with h4; subst h4
        exact fin k h2
      | lim _ _ =>
        obtain ⟨h3, h4⟩ := need_some h2
        injection h4 with h4; subst h4
        exact fin k h2
      | _ => cases h2
    | _ => cases h
end

theorem stepOp_ob (att : Nat → Attr) (call : CallT) (base : Nat) (fr : Fr) (ob ob2 : Objs) (v : VOp) {r : R} (h : stepOp att call base fr ob v = some r) (k : Agree ob ob2 r.rd) : stepOp att call base fr ob2 v = some r := by
  cases v with
  | bslice sz ps => exact bsliceR_local h k
  | load agg n x => exact loadR_local h k
  | store n a x => exact storeR_local h k
  | slice sz x lo hi mx => exact sliceR_local h k
  | faddr off x => exact faddrR_local h k
  | iaddr sz x i => exact iaddrR_local h k
  | look z ok kt m x => exact lookR_local h k
  | mupd kt m x y => exact mupdR_local h k
  | len kd x => exact lenR_local h k
  | delete kt m x => exact deleteR_local h k
  | app sz b x y => exact appR_local h k
  | call f args => exact doCall_local h k
  | callv x args =>
    have h' : callvR att call base (evL fr args) ob (x.ev fr) = some r := h
    show callvR att call base (evL fr args) ob2 (x.ev fr) = some r
    cases hx : x.ev fr <;> rw [hx] at h' <;> first | (cases h'; done) | skip
    rename_i f cap
    have h2 : bcond (Nat.ble 32768 f) (fun _ => doCall (att (f - 32768)) call base (f - 32768) (cap ++ evL fr args) ob) (fun _ => doCall (att f) call base f (evL fr args ++ cap) ob) = some r := h'
    show bcond (Nat.ble 32768 f) (fun _ => doCall (att (f - 32768)) call base (f - 32768) (cap ++ evL fr args) ob2) (fun _ => doCall (att f) call base f (evL fr args ++ cap) ob2) = some r
    cases hb : Nat.ble 32768 f <;> rw [hb] at h2
    · exact doCall_local h2 k
    · exact doCall_local h2 k
  | _ => exact h

theorem stepOp_local {att : Nat → Attr} {call : CallT} {base : Nat} {fr fr2 : Fr} {ob ob2 : Objs} {v : VOp} {r : R} (h : stepOp att call base fr ob v = some r) (hf : ∀ t ∈ vReads v, fget fr2 t = fget fr t) (k : Agree ob ob2 r.rd) : stepOp att call base fr2 ob2 v = some r := by
  rw [stepOp_fr att call base fr fr2 ob2 v hf]
  exact stepOp_ob att call base fr ob ob2 v h k

/-! ### operations that write nothing, or look at nothing -/
def All (p : R → Prop) (x : Option R) : Prop := ∀ r, x = some r → p r
section
variable {p : R → Prop}
theorem All.none : All p none := fun _ h => by cases h
theorem All.some {r : R} (h : p r) : All p (some r) := fun _ e => by injection e with e; exact e ▸ h
theorem All.need {b : Bool} {x : Option R} (h : All p x) : All p (need b x) := fun r e => h r (need_some e).2
theorem All.obind {α : Type} {x : Option α} {f : α → Option R} (h : ∀ a, All p (f a)) : All p (obind x f) := fun r e => by
  obtain ⟨a, _, e⟩ := obind_eq e
  exact h a r e
end
def quiet (r : R) : Prop := r.upd = []
def deaf (r : R) : Prop := r.rd = []

theorem noWrite_upd {att : Nat → Attr} {call : CallT} {base : Nat} {fr : Fr} {ob : Objs} {v : VOp} {r : R} (hw : noWrite v = true) (h : stepOp att call base fr ob v = some r) : r.upd = [] := by
  refine (?_ : All quiet (stepOp att call base fr ob v)) r h
  clear h
  cases v <;> first | (cases hw; done) | skip
  all_goals simp only [stepOp]
  all_goals first
    | exact All.some rfl
    | (first | unfold pickR | unfold buildR | unfold loadR | unfold nilchkR | unfold binNR binR | unfold binR | unfold eqdR | unfold isnilR | unfold stridR | unfold unR | unfold convR | unfold ssliceR | unfold faddrR | unfold fldR | unfold iaddrR | unfold sidxR | unfold aidxR | unfold lookR | unfold extR | unfold lenR | unfold maxR | unfold minR)
      repeat' first
        | exact All.none
        | exact All.some rfl
        | refine All.need ?_
        | refine All.obind fun _ => ?_
        | unfold loadBox
        | unfold loadArr
        | unfold loadElem
        | unfold faddrArr
        | unfold iaddrOwn
        | unfold elemPtr
        | unfold byteAt
        | unfold lookMap
        | unfold lenArr
        | unfold lenMap
        | unfold binR
        | split
theorem noTouch_rd {att : Nat → Attr} {call : CallT} {base : Nat} {fr : Fr} {ob : Objs} {v : VOp} {r : R} (hw : noTouch v = true) (h : stepOp att call base fr ob v = some r) : r.rd = [] ∧ r.upd = [] := by
  have hn : noWrite v = true := by cases v <;> first | exact hw | (cases hw; done)
  refine ⟨?_, noWrite_upd hn h⟩
  refine (?_ : All deaf (stepOp att call base fr ob v)) r h
  clear h
  cases v <;> first | (cases hw; done) | skip
  all_goals simp only [stepOp]
  all_goals first
    | exact All.some rfl
    | (first | unfold pickR | unfold buildR | unfold nilchkR | unfold binNR binR | unfold binR | unfold eqdR | unfold isnilR | unfold stridR | unfold unR | unfold convR | unfold ssliceR | unfold fldR | unfold sidxR | unfold aidxR | unfold extR | unfold maxR | unfold minR)
      repeat' first
        | exact All.none
        | exact All.some rfl
        | refine All.need ?_
        | refine All.obind fun _ => ?_
        | unfold byteAt
        | unfold binR
        | split
end Go.V

set_option linter.unusedVariables false
set_option linter.unusedSimpArgs false
namespace Go.V

structure Eqv (s t : St) : Prop where
  fr : ∀ i, fget t.fr i = fget s.fr i
  ob : ∀ o, oget t.ob o = oget s.ob o
  nx : t.nx = s.nx
  m : t.m = s.m
  ro : t.ro = s.ro
theorem Eqv.refl (s : St) : Eqv s s := ⟨fun _ => rfl, fun _ => rfl, rfl, rfl, rfl⟩
theorem Eqv.symm {s t : St} (h : Eqv s t) : Eqv t s := ⟨fun i => (h.fr i).symm, fun o => (h.ob o).symm, h.nx.symm, h.m.symm, h.ro.symm⟩
theorem Eqv.trans {s t u : St} (h : Eqv s t) (k : Eqv t u) : Eqv s u := ⟨fun i => (k.fr i).trans (h.fr i), fun o => (k.ob o).trans (h.ob o), k.nx.trans h.nx, k.m.trans h.m, k.ro.trans h.ro⟩

theorem fget_put (d : Option Nat) (v : AV) (fr : Fr) (t : Nat) : fget (putDst d v fr) t = if d = some t then v else fget fr t := by
  cases d with
  | none => simp [putDst]
  | some k =>
    show fget ((k, v) :: fr) t = _
    rw [fget_cons]
    by_cases h : k = t
    · subst h; simp
    · rw [if_neg h, if_neg (fun e => h (Option.some.inj e))]

section
variable {att : Nat → Attr} {call : CallT}

theorem step1_local {c : COp} {st : St} {p : St × Eff} (h : step1 att call c st = some p) : ∃ v u rd, p = (⟨putDst c.dst v st.fr, u ++ st.ob, st.nx, st.m, st.ro⟩, ⟨rd, keysOf u⟩) ∧
    (noWrite c.op = true → u = []) ∧ (noTouch c.op = true → rd = [] ∧ u = []) ∧
    ∀ st2 : St, st2.nx = st.nx → st2.m = st.m → st2.ro = st.ro → (∀ t ∈ cReads c, fget st2.fr t = fget st.fr t) → Agree st.ob st2.ob rd →
      step1 att call c st2 = some (⟨putDst c.dst v st2.fr, u ++ st2.ob, st2.nx, st2.m, st2.ro⟩, ⟨rd, keysOf u⟩) := by
  obtain ⟨dst, op, guard, base⟩ := c
  have main : ∀ {p}, runOp att call ⟨dst, op, guard, base⟩ st = some p → ∃ v u rd, p = (⟨putDst dst v st.fr, u ++ st.ob, st.nx, st.m, st.ro⟩, ⟨rd, keysOf u⟩) ∧
      (noWrite op = true → u = []) ∧ (noTouch op = true → rd = [] ∧ u = []) ∧
      ∀ st2 : St, st2.nx = st.nx → st2.m = st.m → st2.ro = st.ro → (∀ t ∈ vReads op, fget st2.fr t = fget st.fr t) → Agree st.ob st2.ob rd →
        runOp att call ⟨dst, op, guard, base⟩ st2 = some (⟨putDst dst v st2.fr, u ++ st2.ob, st2.nx, st2.m, st2.ro⟩, ⟨rd, keysOf u⟩) := by
    intro p hp
    obtain ⟨r, h1, h2⟩ := obind_eq hp
    obtain ⟨h3, h4⟩ := need_some h2
    injection h4 with h4
    refine ⟨r.v, r.upd, r.rd, h4.symm, fun hw => noWrite_upd hw h1, fun hw => noTouch_rd hw h1, fun st2 e1 e2 e3 hf ho => ?_⟩
    unfold runOp
    rw [show stepOp att call (st2.nx + base) st2.fr st2.ob op = some r by rw [e1]; exact stepOp_local h1 hf ho]
    show need _ _ = _
    rw [e2, e3, h3]; rfl
  unfold step1 at h
  cases guard with
  | none =>
    obtain ⟨v, u, rd, q1, q2, q3, q4⟩ := main h
    refine ⟨v, u, rd, q1, q2, q3, fun st2 e1 e2 e3 hf ho => ?_⟩
    exact q4 st2 e1 e2 e3 (fun t ht => hf t (List.mem_append.2 (.inl ht))) ho
  | some gw =>
    obtain ⟨g, want⟩ := gw
    obtain ⟨b, hb, h⟩ := obind_eq h
    cases b with
    | true =>
      obtain ⟨v, u, rd, q1, q2, q3, q4⟩ := main h
      refine ⟨v, u, rd, q1, q2, q3, fun st2 e1 e2 e3 hf ho => ?_⟩
      unfold step1
      dsimp only
      rw [hf g (List.mem_append.2 (.inr (List.mem_singleton.2 rfl))), hb]
      exact q4 st2 e1 e2 e3 (fun t ht => hf t (List.mem_append.2 (.inl ht))) ho
    | false =>
      injection h with h
      refine ⟨.tup [], [], [], h.symm, fun _ => rfl, fun _ => ⟨rfl, rfl⟩, fun st2 e1 e2 e3 hf ho => ?_⟩
      unfold step1
      dsimp only
      rw [hf g (List.mem_append.2 (.inr (List.mem_singleton.2 rfl))), hb]
      rfl

theorem step1_congr {c : COp} {st st2 s1 : St} {e : Eff} (h : step1 att call c st = some (s1, e)) (k : Eqv st st2) : ∃ t1, step1 att call c st2 = some (t1, e) ∧ Eqv s1 t1 := by
  obtain ⟨v, u, rd, q1, _, _, q4⟩ := step1_local h
  injection q1 with q1 q2
  subst q1; subst q2
  refine ⟨_, q4 st2 k.nx k.m k.ro (fun t _ => k.fr t) (fun o _ => k.ob o), ⟨fun t => ?_, fun o => ?_, k.nx, k.m, k.ro⟩⟩
  · show fget (putDst c.dst v st2.fr) t = fget (putDst c.dst v st.fr) t
    rw [fget_put, fget_put, k.fr t]
  · show oget (u ++ st2.ob) o = oget (u ++ st.ob) o
    rw [oget_append, oget_append, k.ob o]

theorem disjointL_spec {a b : List Nat} (h : disjointL a b = true) : ∀ o, o ∈ a → o ∈ b → False := by
  induction a with
  | nil => intro o ho; cases ho
  | cons x a ih =>
    unfold disjointL at h
    simp only [Bool.and_eq_true] at h
    intro o ho hb
    rcases List.mem_cons.1 ho with e | ho
    · subst e
      have := (mem_iff o b).2 hb
      rw [this] at h; simp at h
    · exact ih h.2 o ho hb

theorem dstFree_spec {d : Option Nat} {l : List Nat} (h : dstFree d l = true) : ∀ t ∈ l, d ≠ some t := by
  intro t ht e
  subst e
  have := (mem_iff t l).2 ht
  simp [dstFree, this] at h

theorem swap {c d : COp} {st s1 s2 : St} {e1 e2 : Eff} (h1 : step1 att call c st = some (s1, e1)) (h2 : step1 att call d s1 = some (s2, e2)) (hi : indepC c d = true) (he : effOk e1 e2 = true) :
    ∃ t1 t2, step1 att call d st = some (t1, e2) ∧ step1 att call c t1 = some (t2, e1) ∧ Eqv s2 t2 := by
  obtain ⟨v, u, rd, q1, _, _, q4⟩ := step1_local h1
  injection q1 with q1 q2
  subst q1; subst q2
  obtain ⟨v', u', rd', r1, _, _, r4⟩ := step1_local h2
  injection r1 with r1 r2
  subst r1; subst r2
  unfold indepC at hi
  simp only [Bool.and_eq_true] at hi
  obtain ⟨⟨i1, i2⟩, i3⟩ := hi
  unfold effOk at he
  simp only [Bool.and_eq_true] at he
  obtain ⟨⟨k1, k2⟩, k3⟩ := he
  have k1 := disjointL_spec k1
  have k2 := disjointL_spec k2
  have k3 := disjointL_spec k3
  have a1 := r4 st rfl rfl rfl (fun t ht => by
    show fget st.fr t = fget (putDst c.dst v st.fr) t
    rw [fget_put, if_neg (dstFree_spec i1 t ht)]) (fun o ho => by
    show oget st.ob o = oget (u ++ st.ob) o
    rw [oget_append, if_neg (fun hk => k1 o hk ho)])
  refine ⟨_, _, a1, q4 ⟨putDst d.dst v' st.fr, u' ++ st.ob, st.nx, st.m, st.ro⟩ rfl rfl rfl (fun t ht => ?_) (fun o ho => ?_), ⟨fun t => ?_, fun o => ?_, rfl, rfl, rfl⟩⟩
  · show fget (putDst d.dst v' st.fr) t = fget st.fr t
    rw [fget_put, if_neg (dstFree_spec i2 t ht)]
  · show oget (u' ++ st.ob) o = oget st.ob o
    rw [oget_append, if_neg (fun hk => k3 o hk ho)]
  · show fget (putDst c.dst v (putDst d.dst v' st.fr)) t = fget (putDst d.dst v' (putDst c.dst v st.fr)) t
    rw [fget_put, fget_put, fget_put, fget_put]
    by_cases x1 : c.dst = some t
    · by_cases x2 : d.dst = some t
      · rw [x1, x2] at i3; simp [dstApart] at i3
      · rw [if_pos x1, if_neg x2, if_pos x1]
    · rw [if_neg x1, if_neg x1]
  · show oget (u ++ (u' ++ st.ob)) o = oget (u' ++ (u ++ st.ob)) o
    rw [oget_append, oget_append, oget_append, oget_append]
    by_cases x1 : o ∈ keysOf u
    · rw [if_pos x1, if_neg (fun x2 => k2 o x1 x2), if_pos x1]
    · rw [if_neg x1, if_neg x1]

def RunL (att : Nat → Attr) (call : CallT) (E : Nat → Eff) : List (Nat × COp) → St → St → Prop
  | [], st, st' => Eqv st' st
  | (i, c) :: l, st, st' => ∃ s1, step1 att call c st = some (s1, E i) ∧ RunL att call E l s1 st'

theorem RunL.congr {E : Nat → Eff} : ∀ {l : List (Nat × COp)} {st st2 st' : St}, Eqv st st2 → RunL att call E l st st' → RunL att call E l st2 st'
  | [], st, st2, st', k, h => Eqv.trans h k
  | (i, c) :: l, st, st2, st', k, h => by
    obtain ⟨s1, h1, h2⟩ := h
    obtain ⟨t1, k1, k2⟩ := step1_congr h1 k
    exact ⟨t1, k1, RunL.congr k2 h2⟩

theorem RunL.front {E : Nat → Eff} {i : Nat} {c : COp} {B : List (Nat × COp)} : ∀ {A : List (Nat × COp)} {st st' : St}, RunL att call E (A ++ (i, c) :: B) st st' → (∀ p ∈ A, indepC p.2 c = true ∧ effOk (E p.1) (E i) = true) →
    RunL att call E ((i, c) :: (A ++ B)) st st'
  | [], _, _, h, _ => h
  | (j, d) :: A, st, st', h, k => by
    obtain ⟨s1, h1, h2⟩ := h
    obtain ⟨s2, h3, h4⟩ := RunL.front h2 fun p hp => k p (List.mem_cons_of_mem _ hp)
    obtain ⟨t1, t2, a1, a2, a3⟩ := swap h1 h3 (k (j, d) List.mem_cons_self).1 (k (j, d) List.mem_cons_self).2
    exact ⟨t1, a1, t2, a2, RunL.congr a3 h4⟩

/-! ### from the machine's own order -/
def enumC : Nat → List COp → List (Nat × COp)
  | _, [] => []
  | i, c :: l => (i, c) :: enumC (i + 1) l
theorem enumC_mem : ∀ {l : List COp} {i : Nat} {p : Nat × COp}, p ∈ enumC i l ↔ ∃ k, p.1 = i + k ∧ l[k]? = some p.2
  | [], i, p => ⟨fun h => (by cases h), fun ⟨k, _, h⟩ => (by cases h)⟩
  | c :: l, i, p => by
    show p ∈ (i, c) :: enumC (i + 1) l ↔ _
    rw [List.mem_cons, enumC_mem]
    constructor
    · rintro (h | ⟨k, h1, h2⟩)
      · subst h; exact ⟨0, rfl, rfl⟩
      · exact ⟨k + 1, by omega, h2⟩
    · rintro ⟨k, h1, h2⟩
      cases k with
      | zero =>
        left
        obtain ⟨p1, p2⟩ := p
        injection h2 with h2
        simp at h1
        subst h1; subst h2; rfl
      | succ k => exact .inr ⟨k, by omega, h2⟩

theorem steps_run (E : Nat → Eff) : ∀ {l : List COp} {st st' : St} {i : Nat}, steps att call l st = some st' → ∃ E : Nat → Eff, RunL att call E (enumC i l) st st'
  | [], st, st', i, h => by injection h with h; subst h; exact ⟨E, Eqv.refl _⟩
  | c :: l, st, st', i, h => by
    obtain ⟨⟨s1, e⟩, h1, h2⟩ := obind_eq h
    obtain ⟨E', h3⟩ := steps_run E (i := i + 1) h2
    refine ⟨fun k => if k = i then e else E' k, s1, by simp [h1], ?_⟩
    have : ∀ {l : List COp} {j : Nat} {s s' : St}, i < j → RunL att call E' (enumC j l) s s' → RunL att call (fun k => if k = i then e else E' k) (enumC j l) s s' := by
      intro l
      induction l with
      | nil => exact fun _ h => h
      | cons c l ih =>
        rintro j s s' hj ⟨s1, k1, k2⟩
        exact ⟨s1, by simp only [if_neg (show j ≠ i by omega)]; exact k1, ih (by omega) k2⟩
    exact this (by omega) h3

theorem stepsE_run : ∀ {l : List COp} {st : St} {es : List Eff} {p : St × List Eff}, stepsE att call l st es = some p → ∃ es', p.2 = es ++ es' ∧ ∀ E : Nat → Eff, (∀ k, E (es.length + k) = es'.getD k ⟨[], []⟩) → RunL att call E (enumC es.length l) st p.1
  | [], st, es, p, h => by injection h with h; subst h; exact ⟨[], by simp, fun _ _ => Eqv.refl _⟩
  | c :: l, st, es, p, h => by
    obtain ⟨⟨s1, e⟩, h1, h2⟩ := obind_eq h
    obtain ⟨es', h3, h4⟩ := stepsE_run h2
    refine ⟨e :: es', by rw [h3]; simp, fun E hE => ⟨s1, ?_, ?_⟩⟩
    · have := hE 0
      simp at this
      rw [this]; exact h1
    · have := h4 E (fun k => by
        have := hE (k + 1)
        rw [List.length_append]
        simp at this ⊢
        rw [show es.length + 1 + k = es.length + (k + 1) by omega]; exact this)
      rw [List.length_append] at this
      exact this
theorem pairsOk_mem {es : List Eff} : ∀ {l : List (Nat × Nat)} {i j : Nat}, pairsOk es l = true → (i, j) ∈ l → effOk (es.getD i ⟨[], []⟩) (es.getD j ⟨[], []⟩) = true
  | (a, b) :: l, i, j, h, hm => by
    unfold pairsOk at h
    simp only [Bool.and_eq_true] at h
    rcases List.mem_cons.1 hm with e | hm
    · injection e with e1 e2; subst e1; subst e2; exact h.1
    · exact pairsOk_mem h.2 hm

/-- the effects of each operation keep to what is known of it -/
theorem RunL.kinds {E : Nat → Eff} : ∀ {l : List (Nat × COp)} {st st' : St}, RunL att call E l st st' → ∀ p ∈ l, (noWrite p.2.op = true → (E p.1).wr = []) ∧ (noTouch p.2.op = true → (E p.1).rd = [] ∧ (E p.1).wr = [])
  | (i, c) :: l, st, st', h, p, hp => by
    obtain ⟨s1, h1, h2⟩ := h
    rcases List.mem_cons.1 hp with e | hp
    · subst e
      obtain ⟨v, u, rd, q1, q2, q3, _⟩ := step1_local h1
      injection q1 with q1 q4
      dsimp only
      rw [q4]
      exact ⟨fun hw => by rw [q2 hw]; rfl, fun hw => by rw [(q3 hw).2]; exact ⟨(q3 hw).1, rfl⟩⟩
    · exact RunL.kinds h2 p hp
theorem disjointL_nil (a : List Nat) : disjointL a [] = true := by
  induction a with
  | nil => rfl
  | cons x a ih => simp [disjointL, mem, ih]
theorem quiet_eff {E : Nat → Eff} {l : List (Nat × COp)} {st st' : St} (h : RunL att call E l st st') {p q : Nat × COp} (hp : p ∈ l) (hq : q ∈ l) (hk : quietC p.2 q.2 = true) : effOk (E p.1) (E q.1) = true := by
  have a := h.kinds p hp
  have b := h.kinds q hq
  unfold quietC at hk
  simp only [Bool.or_eq_true, Bool.and_eq_true] at hk
  unfold effOk
  rcases hk with (hk | hk) | ⟨h1, h2⟩
  · rw [(a.2 hk).1, (a.2 hk).2]; simp [disjointL, disjointL_nil]
  · rw [(b.2 hk).1, (b.2 hk).2]; simp [disjointL, disjointL_nil]
  · rw [a.1 h1, b.1 h2]; simp [disjointL]
end
end Go.V

set_option linter.unusedVariables false
set_option linter.unusedSimpArgs false
namespace Go.V

structure InvU (gl : GlT) (w0 : World) (g0 : Gh) (ob0 : Objs) (n : Nat) (a : Act) (w : World) (g : Gh) (st : St) (U : Nat → Prop) : Prop where
  here : Here gl a w g st.ob U st.fr
  low : ∀ k, k < st.m → U k
  step : Step w0 g0 ob0 w g st.ob (· < st.m) (fun o => st.ro = false ∨ st.m ≤ o)
  shape : st.ro = true → Shape st.m ob0 st.ob
  sz : n ≤ a.tmps.size
  df : a.defers = []

structure OpOk (gl : GlT) (P : Program) (ops : Array Oper) (n : Nat) (o : Oper) (c : COp) : Prop where
  comp : compOp gl P o = some c.op
  dst : c.dst = o.dst
  guard : guardSlot ops o = some c.guard
  lt : ∀ t, c.dst = some t → t < n

theorem put_slot {c : Cx} {fr : Fr} {a : Act} {d : Option Nat} {v : AV} {val : Value} (hv : VRep c v val) (hs : ∀ s, VRep c (fget fr s) (a.tmps.getD s undef)) (hlt : ∀ t, d = some t → t < a.tmps.size) (s : Nat) :
    VRep c (fget (putDst d v fr) s) ((a.put d val).tmps.getD s undef) := by
  rw [fget_put]
  cases d with
  | none => rw [if_neg (by simp)]; exact hs s
  | some t =>
    have ht := hlt t rfl
    by_cases e : t = s
    · subst e
      rw [if_pos rfl]
      have : (a.put (some t) val).tmps.getD t undef = val := by
        simp [Act.put, ht]
      rw [this]; exact hv
    · rw [if_neg (fun h => e (Option.some.inj h))]
      have : (a.put (some t) val).tmps.getD s undef = a.tmps.getD s undef := by
        simp [Act.put, Array.getElem?_setIfInBounds_ne e]
      rw [this]; exact hs s
theorem put_size (a : Act) (d : Option Nat) (v : Value) : (a.put d v).tmps.size = a.tmps.size := by
  cases d with
  | none => rfl
  | some t => simp [Act.put]
theorem put_defers (a : Act) (d : Option Nat) (v : Value) : (a.put d v).defers = a.defers := by
  cases d <;> rfl
theorem put_name {fr : Fr} {U : Nat → Prop} {d : Option Nat} {v : AV} (hv : NamesIn U v.names) (hs : ∀ s, NamesIn U (fget fr s).names) (s : Nat) : NamesIn U (fget (putDst d v fr) s).names := by
  rw [fget_put]
  by_cases e : d = some s
  · rw [if_pos e]; exact hv
  · rw [if_neg e]; exact hs s

theorem writes_spec {m : Nat} : ∀ {u : Objs}, writesImport m u = false → ∀ o ∈ keysOf u, m ≤ o
  | (k, v) :: u, h, o, ho => by
    unfold writesImport at h
    simp only [Bool.or_eq_false_iff, Bool.not_eq_false'] at h
    rcases List.mem_cons.1 ho with e | ho
    · subst e; exact Nat.le_of_ble_eq_true h.1
    · exact writes_spec h.2 o ho

section
variable {gl : GlT} {P : Program} {att : Nat → Attr} {call : CallT} {w0 w : World} {g0 g : Gh} {ob0 : Objs} {n : Nat} {a : Act} {st : St} {U : Nat → Prop}

theorem InvU.mono (h : InvU gl w0 g0 ob0 n a w g st U) {U' : Nat → Prop} (hU : ∀ k, U k → U' k) : InvU gl w0 g0 ob0 n a w g st U' :=
  ⟨⟨h.here.good.mono hU, h.here.slot, fun t o ho => hU o (h.here.name t o ho), h.here.glob⟩, fun k hk => hU k (h.low k hk), h.step, h.shape, h.sz, h.df⟩

theorem InvU.eqv (h : InvU gl w0 g0 ob0 n a w g st U) {st2 : St} (k : Eqv st st2) : InvU gl w0 g0 ob0 n a w g st2 U := by
  obtain ⟨fr, ob, nx, m, ro⟩ := st
  obtain ⟨fr2, ob2, nx2, m2, ro2⟩ := st2
  obtain ⟨k1, k2, k3, k4, k5⟩ := k
  dsimp only at k1 k2 k3 k4 k5
  subst k3; subst k4; subst k5
  have ko : oget ob2 = oget ob := funext k2
  have kc : ∀ w g, cx w g ob2 = cx w g ob := fun w g => by have kl : lnOf ob2 = lnOf ob := (by funext o; simp only [lnOf, ko]); simp only [cx, Mut, kl, ko]
  obtain ⟨⟨⟨a1, a2, a3, a4, a5⟩, b2, b3, b4⟩, c2, ⟨s1, s2, s3, s4, s5, s6, s7, s8, s9⟩, c4, c5, c6⟩ := h
  dsimp only at *
  refine ⟨⟨⟨fun o x ho => ?_, fun o o' x x' b ho ho' => a2 o o' x x' b (by rw [← ko]; exact ho) (by rw [← ko]; exact ho'), fun o x ho => a3 o x (by rw [← ko]; exact ho), a4, fun o x b ho => a5 o x b (by rw [← ko]; exact ho)⟩, fun t => ?_, fun t => by rw [k1 t]; exact b3 t, ?_⟩, c2, ⟨?_, fun o ho h' => s2 o ho (by rw [← ko]; exact h'), s3, fun o hu h' => s4 o hu (by rw [← ko]; exact h'), s5, s6, s7, s8, s9⟩, fun hr i hi x hx => ?_, c5, c6⟩
  · show ObRep (cx w g ob2) o x
    rw [kc]; exact a1 o x (by rw [← ko]; exact ho)
  · show VRep (cx w g ob2) (fget fr2 t) _
    rw [kc, k1 t]; exact b2 t
  · show GlobOk gl w (cx w g ob2).S
    rw [kc]; exact b4
  · show Later _ (cx w g ob2) _
    rw [kc]; exact s1
  · obtain ⟨x', q1, q2⟩ := c4 hr i hi x hx
    exact ⟨x', by rw [ko]; exact q1, q2⟩

/-- another world with the same memory -/
theorem InvU.world (h : InvU gl w0 g0 ob0 n a w g st U) {w' : World} (e1 : w'.heap = w.heap) (e2 : w'.os = w.os) (e3 : w'.tape = w.tape) (e4 : w'.output = w.output) : InvU gl w0 g0 ob0 n a w' g st U := by
  have hl : Later (cx w g st.ob) (cx w' g st.ob) U := ⟨fun b off u hs hu => ⟨by show World.at_ w' b off = some u; rw [at_congr (w := w) (by rw [e1])]; exact hu, hs⟩, fun _ _ => rfl, fun _ _ => rfl, fun _ _ _ _ h => h⟩
  have hg := h.here.good
  refine ⟨⟨⟨fun o x ho => ObRep.mono hl o x (hg.dom o x ho).1 (hg.dom o x ho).2 (fun b _ => by show w'.heap[b]? = w.heap[b]?; rw [e1]) (hg.rep o x ho), hg.inj, hg.dom, fun b off hb => hg.fresh b off (by rw [← e1]; exact hb), hg.own⟩, fun t => VRep.mono hl _ _ (h.here.name t) (h.here.slot t), h.here.name, h.here.glob.mono hl.keeps⟩, h.low, ?_, h.shape, h.sz, h.df⟩
  have t : Step w g st.ob w' g st.ob U (fun _ => False) := ⟨hl, fun _ _ h => h, fun b _ _ => by rw [e1], fun o hu ho => absurd (hg.in o ho) hu, by rw [e1]; exact Nat.le_refl _, e2, e3, e4, rfl⟩
  exact (h.step.trans t h.low).mono fun o ho => ho.elim id False.elim

theorem InvU.next (h : InvU gl w0 g0 ob0 n a w g st U) {base W : Nat} {r : R} {v : Value} {w' : World} {d : Option Nat} {p : St × Eff} (hd : Done w g st.ob U base W r v w') (hp : putR d st r = some p) (hlt : ∀ t, d = some t → t < n) :
    ∃ g', InvU gl w0 g0 ob0 n (a.put d v) w' g' p.1 (fun k => U k ∨ (base ≤ k ∧ k < base + W)) := by
  obtain ⟨g', d1, d2, d3, d4⟩ := hd
  obtain ⟨h1, h2⟩ := need_some hp
  injection h2 with h2; subst h2
  have hkeys : st.ro = true → ∀ o ∈ keysOf r.upd, st.m ≤ o := fun hr => by
    rw [hr] at h1
    exact writes_spec (by simpa using h1)
  refine ⟨g', ⟨d1, ?_, ?_, h.here.glob.mono d2.later.keeps⟩, fun k hk => .inl (h.low k hk), ?_, ?_, by rw [put_size]; exact h.sz, by rw [put_defers]; exact h.df⟩
  · exact put_slot d3 (fun s => VRep.mono d2.later _ _ (h.here.name s) (h.here.slot s)) (fun t ht => Nat.lt_of_lt_of_le (hlt t ht) h.sz)
  · exact put_name d4 fun s o ho => .inl (h.here.name s o ho)
  · refine (h.step.trans d2 h.low).mono fun o ho => ?_
    rcases ho with ho | ho
    · exact ho
    · cases hr : st.ro with
      | false => exact .inl rfl
      | true => exact .inr (hkeys hr o ho)
  · intro hr i hi x hx
    obtain ⟨x', q1, q2⟩ := h.shape hr i hi x hx
    refine ⟨x', ?_, q2⟩
    show oget (r.upd ++ st.ob) i = some x'
    have hi' : i < st.m := hi
    rw [oget_append, if_neg (fun hk => by have := hkeys hr i hk; omega)]
    exact q1

theorem InvU.skip (h : InvU gl w0 g0 ob0 n a w g st U) (d : Option Nat) (hlt : ∀ t, d = some t → t < n) : InvU gl w0 g0 ob0 n (a.put d undef) w g ⟨putDst d (.tup []) st.fr, st.ob, st.nx, st.m, st.ro⟩ U :=
  ⟨⟨h.here.good, put_slot (val := undef) (v := .tup []) ⟨[], rfl, rfl⟩ h.here.slot (fun t ht => Nat.lt_of_lt_of_le (hlt t ht) h.sz), put_name (fun _ h => by cases h) h.here.name, h.here.glob⟩, h.low, h.step, h.shape, by rw [put_size]; exact h.sz, by rw [put_defers]; exact h.df⟩

theorem step1_same {c : COp} {p : St × Eff} (h : step1 att call c st = some p) : p.1.nx = st.nx ∧ p.1.m = st.m ∧ p.1.ro = st.ro := by
  obtain ⟨v, u, rd, q1, _⟩ := step1_local h
  subst q1
  exact ⟨rfl, rfl, rfl⟩

theorem guard_yield {ops : Array Oper} {o : Oper} {t : Nat} {want b : Bool} (hg : guardSlot ops o = some (some (t, want))) (hs : VRep (cx w g st.ob) (fget st.fr t) (a.tmps.getD t undef)) (hb : guardOf want (fget st.fr t) = some b) :
    Region.wanted o (yielded ops a.tmps) = b := by
  unfold guardSlot at hg
  unfold Region.wanted
  cases ho : o.guard with
  | none => rw [ho] at hg; cases hg
  | some jw =>
    obtain ⟨j, want'⟩ := jw
    rw [ho] at hg
    dsimp only at hg ⊢
    cases hj : (ops[j]?).bind (·.dst) with
    | none => rw [hj] at hg; cases hg
    | some t' =>
      rw [hj] at hg
      injection hg with hg; injection hg with hg; injection hg with e1 e2; subst e1; subst e2
      generalize hv : fget st.fr t' = v at hs hb
      cases v with
      | d x =>
        cases x with
        | bool y =>
          injection hb with hb; subst hb
          have hs' : a.tmps.getD t' undef = .bool y := hs
          have : yielded ops a.tmps j = some y := by
            unfold yielded
            rw [hj]
            have hh : a.tmps[t']? = some (.bool y) := by
              rw [Array.getD_eq_getD_getElem?] at hs'
              cases hx : a.tmps[t']? with
              | none => rw [hx] at hs'; simp [undef] at hs'
              | some z => rw [hx] at hs'; simp at hs'; rw [hs']
            simp [hh]
          rw [this]
          cases y <;> cases want' <;> rfl
        | _ => cases hb
      | tup vs =>
        cases vs with
        | nil =>
          injection hb with hb; subst hb
          obtain ⟨us, hs', hr⟩ := hs
          have hr' : us = [] := hr
          subst hr'
          have : yielded ops a.tmps j = none := by
            unfold yielded
            rw [hj]
            cases hx : a.tmps[t']? with
            | none => simp [hx]
            | some z =>
              rw [Array.getD_eq_getD_getElem?, hx] at hs'
              have hz : z = .tuple #[] := hs'
              subst hz
              simp [hx]
          rw [this]; rfl
        | cons _ _ => cases hb
      | _ => cases hb
theorem guard_none {ops : Array Oper} {o : Oper} (hg : guardSlot ops o = some none) (y : Nat → Option Bool) : Region.wanted o y = true := by
  unfold guardSlot at hg
  unfold Region.wanted
  cases ho : o.guard with
  | none => rfl
  | some jw =>
    rw [ho] at hg
    dsimp only at hg
    cases hj : (ops[jw.1]?).bind (·.dst) with
    | none => rw [hj] at hg; cases hg
    | some t' => rw [hj] at hg; cases hg

theorem op_wp {ops : Array Oper} {i : Nat} {o : Oper} {c : COp} {st' : St} {e : Eff} {K : Act → World → Prop} {Q : Exit → Act → World → Prop} (hi : ops[i]? = some o) (hok : OpOk gl P ops n o c) (hcall : Callee gl P att call)
    (h : InvU gl w0 g0 ob0 n a w g st U) (hb : ∀ k, st.nx + c.base ≤ k → k < st.nx + c.base + opW c.op → ¬ U k) (hs : step1 att call c st = some (st', e))
    (k : ∀ a' w' g', InvU gl w0 g0 ob0 n a' w' g' st' (fun k => U k ∨ (st.nx + c.base ≤ k ∧ k < st.nx + c.base + opW c.op)) → K a' w') : wpOp P ops Q i K a w := by
  have main : runOp att call c st = some (st', e) → o.wp P a w K Q := by
    intro hr
    obtain ⟨r, h1, h2⟩ := obind_eq hr
    refine (ok_op hok.comp hcall h.here hb h1).wp fun v w' hd => ?_
    obtain ⟨g', q⟩ := h.next hd h2 hok.lt
    rw [← hok.dst]
    exact k _ _ g' q
  unfold wpOp
  simp only [hi]
  unfold step1 at hs
  cases hg : c.guard with
  | none =>
    rw [hg] at hs
    have := hok.guard
    rw [hg] at this
    rw [guard_none this, if_pos rfl]
    exact .inl (main hs)
  | some tw =>
    obtain ⟨t, want⟩ := tw
    rw [hg] at hs
    have hgd := hok.guard
    rw [hg] at hgd
    obtain ⟨b, hb1, hb2⟩ := obind_eq hs
    rw [guard_yield hgd (h.here.slot t) hb1]
    cases b with
    | true => rw [if_pos rfl]; exact .inl (main hb2)
    | false =>
      rw [if_neg (by simp)]
      injection hb2 with hb2
      injection hb2 with hb2 hb3
      rw [← hok.dst]
      have := h.skip c.dst hok.lt
      rw [hb2] at this
      exact k _ _ g (this.mono fun k => .inl)

/-! ### names of the operations that are still to come -/
def inRange (nx : Nat) (p : Nat × COp) (k : Nat) : Prop := nx + p.2.base ≤ k ∧ k < nx + p.2.base + opW p.2.op
def UR (nx W : Nat) (R : List (Nat × COp)) (k : Nat) : Prop := k < nx + W ∧ ∀ p ∈ R, ¬ inRange nx p k
def Apart (p q : Nat × COp) : Prop := ∀ nx k, inRange nx p k → inRange nx q k → False

theorem UR.next {nx W : Nat} {A B : List (Nat × COp)} {p : Nat × COp} (hfit : p.2.base + opW p.2.op ≤ W) (hap : ∀ q ∈ A ++ B, Apart p q) {k : Nat} (h : UR nx W (A ++ p :: B) k ∨ (nx + p.2.base ≤ k ∧ k < nx + p.2.base + opW p.2.op)) : UR nx W (A ++ B) k := by
  rcases h with h | h
  · refine ⟨h.1, fun q hq => h.2 q ?_⟩
    rcases List.mem_append.1 hq with hq | hq
    · exact List.mem_append.2 (.inl hq)
    · exact List.mem_append.2 (.inr (List.mem_cons_of_mem _ hq))
  · exact ⟨by omega, fun q hq hr => hap q hq nx k h hr⟩

/-! ### the region's own order -/
theorem region_list {ops : Array Oper} {nx W : Nat} {E : Nat → Eff} {st' : St} {Q : Exit → Act → World → Prop} (hcall : Callee gl P att call)
    (hQ : ∀ a w g, InvU gl w0 g0 ob0 n a w g st' (UR nx W []) → Q .normal a w) : ∀ (R : List (Nat × COp)) (a : Act) (w : World) (g : Gh) (st : St), (∀ p ∈ R, ∃ o, ops[p.1]? = some o ∧ OpOk gl P ops n o p.2) → R.Pairwise Apart →
      (∀ p ∈ R, p.2.base + opW p.2.op ≤ W) → InvU gl w0 g0 ob0 n a w g st (UR nx W R) → st.nx = nx → RunL att call E R st st' → wpOps P ops Q (R.map (·.1)) a w
  | [], a, w, g, st, _, _, _, h, _, hr => hQ a w g (h.eqv hr.symm)
  | (i, c) :: R, a, w, g, st, hops, hap, hfit, h, hnx, hr => by
    obtain ⟨s1, h1, h2⟩ := hr
    obtain ⟨o, ho, hok⟩ := hops (i, c) List.mem_cons_self
    obtain ⟨p1, p2⟩ := List.pairwise_cons.1 hap
    show wpOps P ops Q (i :: R.map (·.1)) a w
    rw [wpOps_cons]
    refine op_wp ho hok hcall h (fun k k1 k2 hk => hk.2 (i, c) List.mem_cons_self ⟨by rw [← hnx]; exact k1, by rw [← hnx]; exact k2⟩) h1 fun a' w' g' q => ?_
    refine region_list hcall hQ R a' w' g' s1 (fun p hp => hops p (List.mem_cons_of_mem _ hp)) p2 (fun p hp => hfit p (List.mem_cons_of_mem _ hp)) (q.mono fun k hk => ?_) ((step1_same h1).1.trans hnx) h2
    rw [hnx] at hk
    exact UR.next (A := []) (hfit (i, c) List.mem_cons_self) p1 hk

/-! ### any order -/
theorem region_any {ops : Array Oper} {nx W : Nat} {E : Nat → Eff} {st' : St} {Q : Exit → Act → World → Prop} {an : Nat → Nat → Prop} (hcall : Callee gl P att call)
    (hback : ∀ i o, ops[i]? = some o → ∀ d ∈ direct o, d < i)
    (hanc : ∀ i o j, ops[i]? = some o → an i j → ∃ d ∈ direct o, j = d ∨ an d j)
    (hQ : ∀ a w g, InvU gl w0 g0 ob0 n a w g st' (UR nx W []) → Q .normal a w) : ∀ (fuel : Nat) (R : List (Nat × COp)) (listed : Array Bool) (a : Act) (w : World) (g : Gh) (st : St), R.length = fuel → listed.size = ops.size →
      (∀ i, i < ops.size → (listed.getD i true = false ↔ ∃ c, (i, c) ∈ R)) → R.Pairwise (fun p q => p.1 < q.1) →
      (∀ p ∈ R, ∃ o, ops[p.1]? = some o ∧ OpOk gl P ops n o p.2) → R.Pairwise Apart → (∀ p ∈ R, p.2.base + opW p.2.op ≤ W) →
      (∀ i, listed.getD i false = true → ∀ j, an i j → listed.getD j false = true) →
      (∀ p ∈ R, ∀ q ∈ R, p.1 < q.1 → ¬ an q.1 p.1 → indepC p.2 q.2 = true ∧ effOk (E p.1) (E q.1) = true) →
      InvU gl w0 g0 ob0 n a w g st (UR nx W R) → st.nx = nx → RunL att call E R st st' → wpAny P .any ops Q fuel listed a w
  | 0, R, listed, a, w, g, st, hlen, hsz, hls, hso, hops, hap, hfit, hcl, hcm, h, hnx, hr => by
    have : R = [] := List.eq_nil_of_length_eq_zero hlen
    subst this
    refine ⟨?_, hQ a w g (h.eqv (Eqv.symm hr))⟩
    rw [List.eq_nil_iff_forall_not_mem]
    intro i hi
    obtain ⟨q1, o, q2, _⟩ := mem_ready.1 hi
    obtain ⟨c, hc⟩ := (hls i (Array.getElem?_eq_some_iff.1 q2).1).1 q1
    cases hc
  | fuel + 1, R, listed, a, w, g, st, hlen, hsz, hls, hso, hops, hap, hfit, hcl, hcm, h, hnx, hr => by
    have hgd : ∀ i, i < ops.size → (listed.getD i false = true ↔ ¬ ∃ c, (i, c) ∈ R) := by
      intro i hi
      have := hls i hi
      have hi' : i < listed.size := by omega
      have e1 : listed.getD i true = listed[i] := by simp [Array.getD, hi']
      have e2 : listed.getD i false = listed[i] := by simp [Array.getD, hi']
      rw [e2]; rw [e1] at this
      rw [← this]; simp
    refine ⟨fun hn => ?_, fun i hi => ?_⟩
    · exfalso
      cases R with
      | nil => cases hlen
      | cons p R =>
        obtain ⟨i, c⟩ := p
        obtain ⟨o, ho, hok⟩ := hops (i, c) List.mem_cons_self
        have hi : i < ops.size := (Array.getElem?_eq_some_iff.1 ho).1
        have : i ∈ Region.ready .any ops listed := by
          refine mem_ready.2 ⟨(hls i hi).2 ⟨c, List.mem_cons_self⟩, o, ho, fun e he hb => ?_⟩
          have hd : e.on ∈ direct o := List.mem_filterMap.2 ⟨e, by simpa using he, by simp [hb]⟩
          have hlt := hback i o ho _ hd
          refine (hgd e.on (by omega)).2 ?_
          rintro ⟨c', hc'⟩
          rcases List.mem_cons.1 hc' with e' | hc'
          · injection e' with e' _; omega
          · have := (List.pairwise_cons.1 hso).1 _ hc'; simp at this; omega
        rw [hn] at this; cases this
    · obtain ⟨q1, o, q2, q3⟩ := mem_ready.1 hi
      have his : i < ops.size := (Array.getElem?_eq_some_iff.1 q2).1
      obtain ⟨c, hc⟩ := (hls i his).1 q1
      obtain ⟨A, B, rfl⟩ := List.append_of_mem hc
      have hdl : ∀ d ∈ direct o, listed.getD d false = true := by
        intro d hd
        obtain ⟨e, he, hb⟩ := List.mem_filterMap.1 hd
        cases hbb : Region.binds .any e with
        | false => rw [hbb] at hb; simp at hb
        | true => rw [hbb] at hb; simp at hb; subst hb; exact q3 e (by simpa using he) hbb
      have hA : ∀ p ∈ A, p.1 < i := fun p hp => (List.pairwise_append.1 hso).2.2 p hp (i, c) List.mem_cons_self
      have hfr := RunL.front hr fun p hp => by
        have hp' : p ∈ A ++ (i, c) :: B := List.mem_append.2 (.inl hp)
        refine hcm p hp' (i, c) hc (hA p hp) fun han => ?_
        have hps : p.1 < ops.size := by have := hA p hp; omega
        have hnl : ¬ listed.getD p.1 false = true := fun hh => (hgd p.1 hps).1 hh ⟨p.2, hp'⟩
        obtain ⟨d, hd, he⟩ := hanc i o p.1 q2 han
        rcases he with he | he
        · exact hnl (he ▸ hdl d hd)
        · exact hnl (hcl d (hdl d hd) _ he)
      obtain ⟨s1, h1, h2⟩ := hfr
      obtain ⟨o', ho', hok⟩ := hops (i, c) hc
      rw [q2] at ho'; injection ho' with ho'; subst ho'
      have hap' : ∀ q ∈ A ++ B, Apart (i, c) q := by
        intro q hq
        obtain ⟨x1, x2, x3⟩ := List.pairwise_append.1 hap
        rcases List.mem_append.1 hq with hq | hq
        · exact fun nx k k1 k2 => x3 q hq (i, c) List.mem_cons_self nx k k2 k1
        · exact (List.pairwise_cons.1 x2).1 q hq
      have hsub : (A ++ B).Sublist (A ++ (i, c) :: B) := List.Sublist.append_left (List.sublist_cons_self _ _) _
      refine op_wp q2 hok hcall h (fun k k1 k2 hk => hk.2 (i, c) hc ⟨by rw [← hnx]; exact k1, by rw [← hnx]; exact k2⟩) h1 fun a' w' g' q => ?_
      refine region_any hcall hback hanc hQ fuel (A ++ B) _ a' w' g' s1 (by simp at hlen ⊢; omega) (by simp [hsz]) (fun j hj => ?_) (hso.sublist hsub) (fun p hp => hops p (hsub.subset hp)) (hap.sublist hsub) (fun p hp => hfit p (hsub.subset hp)) (fun j hj k hk => ?_) (fun p hp q hq => hcm p (hsub.subset hp) q (hsub.subset hq)) (q.mono fun k hk => ?_) ((step1_same h1).1.trans hnx) h2
      · by_cases e : i = j
        · subst e
          have : i < listed.size := by omega
          simp [this]
          have hnd : ∀ c', (i, c') ∈ A ++ B → False := by
            intro c' hc'
            rcases List.mem_append.1 hc' with hc' | hc'
            · have := hA _ hc'; simp at this
            · have := (List.pairwise_cons.1 (List.pairwise_append.1 hso).2.1).1 _ hc'; simp at this
          exact fun c' => ⟨fun h' => hnd c' (List.mem_append.2 (.inl h')), fun h' => hnd c' (List.mem_append.2 (.inr h'))⟩
        · rw [getD_set_ne true e, hls j hj]
          constructor
          · rintro ⟨c', hc'⟩
            refine ⟨c', ?_⟩
            rcases List.mem_append.1 hc' with hc' | hc'
            · exact List.mem_append.2 (.inl hc')
            · rcases List.mem_cons.1 hc' with e' | hc'
              · injection e' with e' _; exact absurd e'.symm e
              · exact List.mem_append.2 (.inr hc')
          · rintro ⟨c', hc'⟩; exact ⟨c', hsub.subset hc'⟩
      · by_cases e : i = j
        · subst e
          obtain ⟨d, hd, he⟩ := hanc i o k q2 hk
          refine getD_set_true ?_
          rcases he with he | he
          · exact he ▸ hdl d hd
          · exact hcl d (hdl d hd) _ he
        · rw [getD_set_ne false e] at hj
          exact getD_set_true (hcl j hj k hk)
      · rw [hnx] at hk
        exact UR.next (hfit (i, c) hc) hap' hk
end
end Go.V

set_option linter.unusedVariables false
set_option linter.unusedSimpArgs false
namespace Go.V
section
variable {gl : GlT} {P : Program} {o : Oper} {a : Act} {w : World} {g : Gh} {ob : Objs} {U : Nat → Prop} {fr : Fr} {base W : Nat} {r : R}

theorem res_load (h : Here gl a w g ob U fr) {t s n : Nat} {agg : Bool} (ha : isAggT P t = some agg) (hn : sizeT P t = some n) (hr : loadR agg n ob (fget fr s) = some r) :
    ∃ u, ((do loadVar t (← asAddr (a.tmps.getD s undef))) : Sem Value).run P w = .ok u w ∧ VRep (cx w g ob) r.v u ∧ NamesIn U r.v.names := by
  have e1 := h.slot s
  generalize fget fr s = v1 at hr e1
  have go : ∀ (cs : List AV) (vs : List Value) (b off : Nat) (v : AV) (rd : List Nat), a.tmps.getD s undef = .pointer (some ⟨b, off, none⟩) → loadCells agg n cs = some v → VReps (cx w g ob) cs vs → (∀ u ∈ vs, u.oneCell' = true) →
      (∀ j u, vs[j]? = some u → World.at_ w b (off + j) = some u) → NamesIn U (namesL cs) → some ⟨v, [], rd⟩ = some r → ∃ u, ((do loadVar t (← asAddr (a.tmps.getD s undef))) : Sem Value).run P w = .ok u w ∧ VRep (cx w g ob) r.v u ∧ NamesIn U r.v.names := by
    intro cs vs b off v rd ea hl hv h1c hc hnm hr
    injection hr with hr; subst hr
    have hrun : ((do loadVar t (← asAddr (a.tmps.getD s undef))) : Sem Value).run P w = (loadVar t ⟨b, off, none⟩).run P w := by
      rw [ea]
      simp only [asAddr, Sem.run_bind, Sem.run_pure, Result.andThen_ok]
    rcases loadCells_rep hl hv h1c with ⟨e, hle, hv'⟩ | ⟨e, u, hu, hv'⟩
    · exact ⟨_, hrun.trans ((run_loadVar ha hn hc).1 e hle), hv', loadCells_names hl hnm⟩
    · exact ⟨_, hrun.trans ((run_loadVar ha hn hc).2 e u hu), hv', loadCells_names hl hnm⟩
  cases v1 with
  | ptr i off =>
    change loadBox agg n i off (oget ob i) = some r at hr
    obtain ⟨b, hb, ea⟩ := e1
    cases hy : oget ob i with
    | none => rw [hy] at hr; cases hr
    | some y => cases y with
      | box cs =>
        rw [hy] at hr
        obtain ⟨v, hv, hr2⟩ := obind_eq hr
        obtain ⟨b', tt, vs, q1, q2, q3, q4⟩ := h.good.rep i _ hy
        have : b' = b := by rw [hb] at q1; injection q1 with q1; exact q1.symm
        subst this
        refine go (cs.drop off) (vs.drop off) b' off v _ ea hv (VReps.drop off q4) (fun u hu => q3 u (List.mem_of_mem_drop hu)) (fun j u hj => ?_) (namesIn_sub (h.good.dom i _ hy).2 fun z hz => List.mem_of_mem_drop hz) hr2
        rw [at_eq, show w.heap[b']? = some (.cells vs.toArray tt (0, 0)) from q2]
        rw [List.getElem?_drop] at hj
        simpa using hj
      | _ => rw [hy] at hr; cases hr
  | eptr cs =>
    obtain ⟨v, hv, hr2⟩ := obind_eq hr
    obtain ⟨b, off, ea, hc⟩ := e1
    obtain ⟨vs, k1, k2, k3⟩ := eptr_list off cs hc
    exact go (dcells cs) vs b off v [] ea hv (DReps.dcells (c := cx w g ob) k1) k2 k3 (by rw [dcells_names]; intro q hq; cases hq) hr2
  | optr i j off =>
    change loadArr agg n i j off (oget ob i) = some r at hr
    cases hy : oget ob i with
    | none => rw [hy] at hr; cases hr
    | some y => cases y with
      | arr sz xs u =>
        rw [hy] at hr
        change loadElem agg n i off xs[j]? = some r at hr
        cases hx : xs[j]? with
        | none => rw [hx] at hr; cases hr
        | some z =>
          rw [hx] at hr
          obtain ⟨v, hv, hr2⟩ := obind_eq hr
          have hl : (cx w g ob).ln i = some (sz, xs.length) := by show lnOf ob i = _; unfold lnOf; rw [hy]
          obtain ⟨b, hb, ea⟩ := e1.2 sz _ hl
          rcases h.good.rep i _ hy with ⟨q1, q2⟩ | ⟨b', arr, tt, q1, q2, q3, q4, q5, q6⟩
          · subst q2; simp at hx
          · have : b' = b := by rw [hb] at q1; injection q1 with q1; exact q1.symm
            subst this
            obtain ⟨val, p1, p2, p3⟩ := inArr_get 0 xs j z q6 hx
            obtain ⟨vs, c1, c2, c3⟩ := DRep.cells p1
            refine go (dcells (z.cells.drop off)) (vs.drop off) b' (j * sz + off) v _ ea hv (by rw [dcells_drop]; exact VReps.drop off (DReps.dcells (c := cx w g ob) c2)) (fun u hu => c3 u (List.mem_of_mem_drop hu)) (fun k u hk => ?_) (by rw [dcells_names]; intro q hq; cases hq) hr2
            rw [at_eq, show w.heap[b']? = some (.cells arr tt (0, 0)) from q2]
            rw [List.getElem?_drop] at hk
            have := p3 (off + k) u (by rw [c1, List.getElem?_toArray]; exact hk)
            rw [Nat.zero_add] at this
            rw [Nat.add_assoc]
            exact this
      | _ => rw [hy] at hr; cases hr
  | _ => cases hr


theorem res_one (h : Here gl a w g ob U fr) {st : St} (hst : st.fr = fr) (hob : st.ob = ob) {rv : ResultVar} {vr : VRes} {v : AV} (hc : compRes P rv = some vr) (hr : resOf st vr = some v) :
    ∃ u, (match rv with | .tmp t => (pure (a.tmps.getD t undef) : Sem Value) | .cell s t => do loadVar t (← asAddr (a.tmps.getD s undef))).run P w = .ok u w ∧ VRep (cx w g ob) v u ∧ NamesIn U v.names := by
  cases rv with
  | tmp t =>
    injection hc with hc; subst hc
    injection hr with hr; subst hr
    rw [hst]
    exact ⟨_, rfl, h.slot t, h.name t⟩
  | cell s t =>
    unfold compRes at hc
    dsimp only at hc
    cases ha : isAggT P t with
    | none => rw [ha] at hc; cases hc
    | some agg => cases hn : sizeT P t with
      | none => rw [ha, hn] at hc; cases hc
      | some n =>
        rw [ha, hn] at hc
        injection hc with hc; subst hc
        obtain ⟨r, h1, h2⟩ := Option.map_eq_some_iff.1 (show (loadR agg n st.ob (fget st.fr s)).map R.v = some v from hr)
        rw [hst, hob] at h1
        obtain ⟨u, q1, q2, q3⟩ := res_load h ha hn h1
        exact ⟨u, q1, by rw [← h2]; exact q2, by rw [← h2]; exact q3⟩

def resSem (a : Act) : ResultVar → Sem Value
  | .tmp t => pure (a.tmps.getD t undef)
  | .cell s t => do loadVar t (← asAddr (a.tmps.getD s undef))

theorem res_list (h : Here gl a w g ob U fr) {st : St} (hst : st.fr = fr) (hob : st.ob = ob) : ∀ {rs : List ResultVar} {vrs : List VRes} {vs : List AV}, allSome (compRes P) rs = some vrs → allSome (resOf st) vrs = some vs →
    ∃ us, (rs.mapM (resSem a)).run P w = .ok us w ∧ VReps (cx w g ob) vs us ∧ NamesIn U (namesL vs)
  | [], vrs, vs, h1, h2 => by
    injection h1 with h1; subst h1
    injection h2 with h2; subst h2
    exact ⟨[], by simp [Sem.run_pure], rfl, fun _ h => by cases h⟩
  | rv :: rs, vrs, vs, h1, h2 => by
    unfold allSome at h1
    cases hc : compRes P rv with
    | none => rw [hc] at h1; cases h1
    | some vr =>
      cases hcs : allSome (compRes P) rs with
      | none => rw [hc, hcs] at h1; cases h1
      | some vrs' =>
        rw [hc, hcs] at h1
        injection h1 with h1; subst h1
        unfold allSome at h2
        cases hv : resOf st vr with
        | none => rw [hv] at h2; cases h2
        | some v => cases hvs : allSome (resOf st) vrs' with
          | none => rw [hv, hvs] at h2; cases h2
          | some vs' =>
            rw [hv, hvs] at h2
            injection h2 with h2; subst h2
            obtain ⟨u, q1, q2, q3⟩ := res_one h hst hob hc hv
            obtain ⟨us, p1, p2, p3⟩ := res_list h hst hob hcs hvs
            refine ⟨u :: us, ?_, ⟨u, us, rfl, q2, p2⟩, fun o ho => ?_⟩
            · have q1' : (resSem a rv).run P w = .ok u w := by cases rv <;> exact q1
              simp only [List.mapM_cons, Sem.run_bind, q1', Result.andThen_ok, p1, Sem.run_pure]
            · rcases List.mem_append.1 (show o ∈ v.names ++ namesL vs' from ho) with ho | ho
              · exact q3 o ho
              · exact p3 o ho

theorem results_ok (h : Here gl a w g ob U fr) {st : St} (hst : st.fr = fr) (hob : st.ob = ob) {fn : Func} {vrs : List VRes} {vs : List AV} (h1 : allSome (compRes P) fn.results.toList = some vrs) (h2 : allSome (resOf st) vrs = some vs) :
    ∃ u, (results fn a.tmps).run P w = .ok u w ∧ VRep (cx w g ob) (oneOrTup vs) u ∧ NamesIn U (oneOrTup vs).names := by
  obtain ⟨us, q1, q2, q3⟩ := res_list h hst hob h1 h2
  have e : (fn.results.mapM (resSem a)).run P w = .ok us.toArray w := by
    rw [Array.mapM_eq_mapM_toList]
    show ((List.toArray <$> fn.results.toList.mapM (resSem a)) : Sem (Array Value)).run P w = _
    rw [map_eq_pure_bind]
    simp only [Sem.run_bind, q1, Result.andThen_ok, Sem.run_pure]
  have e2 : (results fn a.tmps).run P w = .ok (if h : us.toArray.size = 1 then us.toArray[0] else .tuple us.toArray) w := by
    have : results fn a.tmps = (do let vs ← fn.results.mapM (resSem a); pure (if h : vs.size = 1 then vs[0] else .tuple vs)) := by
      unfold results
      congr 2
    rw [this, Sem.run_bind, e]
    rfl
  refine ⟨_, e2, ?_, ?_⟩
  · cases vs with
    | nil => cases q2; exact ⟨[], rfl, rfl⟩
    | cons v l =>
      obtain ⟨u, us', rfl, k1, k2⟩ := q2
      cases l with
      | nil => cases k2; exact k1
      | cons v2 l =>
        obtain ⟨u2, us2, rfl, k3, k4⟩ := k2
        exact ⟨_, by simp, ⟨u, _, rfl, k1, u2, us2, rfl, k3, k4⟩⟩
  · cases vs with
    | nil => exact fun _ h => by cases h
    | cons v l =>
      cases l with
      | nil => exact fun o ho => q3 o (List.mem_append.2 (.inl ho))
      | cons v2 l => exact q3
end

/-! ### compiled operations -/
theorem dstsOk_mem {n : Nat} : ∀ {cs : List COp}, dstsOk n cs = true → ∀ c ∈ cs, ∀ t, c.dst = some t → t < n
  | c :: l, h, d, hd, t, ht => by
    unfold dstsOk at h
    simp only [Bool.and_eq_true] at h
    rcases List.mem_cons.1 hd with e | hd
    · subst e
      have := h.1
      rw [ht] at this
      exact Nat.le_of_ble_eq_true this
    · exact dstsOk_mem h.2 d hd t ht

section
variable {gl : GlT} {P : Program} {ops : Array Oper}
theorem compOps_ok : ∀ {l : List Oper} {b : Nat} {cs : List COp} {w : Nat}, compOps gl P ops b l = some (cs, w) → b ≤ w ∧ cs.length = l.length ∧ (∀ c ∈ cs, b ≤ c.base ∧ c.base + opW c.op ≤ w) ∧
      cs.Pairwise (fun c d => c.base + opW c.op ≤ d.base) ∧ ∀ (k : Nat) (o : Oper), l[k]? = some o → ∃ c : COp, cs[k]? = some c ∧ compOp gl P o = some c.op ∧ c.dst = o.dst ∧ guardSlot ops o = some c.guard
  | [], b, cs, w, h => by
    injection h with h; injection h with h1 h2; subst h1; subst h2
    refine ⟨Nat.le_refl _, rfl, ?_, List.Pairwise.nil, ?_⟩
    · intro c hc; cases hc
    · intro k o hk; cases hk
  | o :: l, b, cs, w, h => by
    unfold compOps at h
    cases hv : compOp gl P o with
    | none => rw [hv] at h; cases h
    | some v => cases hg : guardSlot ops o with
      | none => rw [hv, hg] at h; cases h
      | some gd => cases hr : compOps gl P ops (b + opW v) l with
        | none => rw [hv, hg] at h; dsimp only at h; rw [hr] at h; cases h
        | some rw' =>
          obtain ⟨r, w'⟩ := rw'
          rw [hv, hg] at h; dsimp only at h; rw [hr] at h
          injection h with h; injection h with h1 h2; subst h1; subst h2
          obtain ⟨a1, a2, a3, a4, a5⟩ := compOps_ok hr
          refine ⟨by omega, by simp [a2], ?_, ?_, ?_⟩
          · intro c hc
            rcases List.mem_cons.1 hc with e | hc
            · subst e; exact ⟨Nat.le_refl _, a1⟩
            · have := a3 c hc; exact ⟨by omega, this.2⟩
          · exact List.pairwise_cons.2 ⟨fun d hd => (a3 d hd).1, a4⟩
          · intro k o' hk
            cases k with
            | zero => injection hk with hk; subst hk; exact ⟨_, rfl, hv, rfl, hg⟩
            | succ k => exact a5 k o' hk

theorem enumC_lt : ∀ (l : List COp) (i : Nat), (enumC i l).Pairwise (fun p q => p.1 < q.1)
  | [], _ => .nil
  | c :: l, i => List.pairwise_cons.2 ⟨fun q hq => by obtain ⟨k, h, _⟩ := enumC_mem.1 hq; show i < q.1; omega, enumC_lt l (i + 1)⟩
theorem enumC_apart : ∀ {l : List COp} {i : Nat}, l.Pairwise (fun c d => c.base + opW c.op ≤ d.base) → (enumC i l).Pairwise Apart
  | [], _, _ => .nil
  | c :: l, i, h => by
    obtain ⟨h1, h2⟩ := List.pairwise_cons.1 h
    refine List.pairwise_cons.2 ⟨fun q hq nx k k1 k2 => ?_, enumC_apart h2⟩
    obtain ⟨j, _, hj⟩ := enumC_mem.1 hq
    have := h1 q.2 (List.mem_of_getElem? hj)
    have k1' := k1.2
    have k2' := k2.1
    dsimp only at k1'
    omega
theorem enumC_fst : ∀ (l : List COp) (i : Nat), (enumC i l).map (·.1) = List.range' i l.length
  | [], _ => rfl
  | c :: l, i => by show i :: (enumC (i + 1) l).map (·.1) = _; rw [enumC_fst l (i + 1)]; rfl
theorem enumC_length : ∀ (l : List COp) (i : Nat), (enumC i l).length = l.length
  | [], _ => rfl
  | c :: l, i => congrArg (· + 1) (enumC_length l (i + 1))
end

/-! ### what must stand before what -/
theorem bit_add {m i j : Nat} (h : bit (addBit m i) j = true) : bit m j = true ∨ j = i := by
  unfold bit addBit at *
  rw [Nat.testBit_or, Nat.one_shiftLeft, Nat.testBit_two_pow] at h
  simp only [Bool.or_eq_true, decide_eq_true_eq] at h
  exact h.imp id Eq.symm
theorem bit_fold {acc : List Nat} {j : Nat} : ∀ {l : List Nat} {m : Nat}, bit (l.foldl (fun m i => addBit (m ||| acc.getD i 0) i) m) j = true → bit m j = true ∨ ∃ d ∈ l, j = d ∨ bit (acc.getD d 0) j = true
  | [], m, h => .inl h
  | d :: l, m, h => by
    rcases bit_fold (l := l) h with h | ⟨e, he, h⟩
    · rcases bit_add h with h | h
      · have h' : bit m j = true ∨ bit (acc.getD d 0) j = true := by
          unfold bit at h ⊢
          rw [Nat.testBit_or] at h
          simpa using h
        rcases h' with h | h
        · exact .inl h
        · exact .inr ⟨d, List.mem_cons_self, .inr h⟩
      · exact .inr ⟨d, List.mem_cons_self, .inl h⟩
    · exact .inr ⟨e, List.mem_cons_of_mem _ he, h⟩
theorem ancs_low : ∀ (l : List Oper) (acc : List Nat) (i : Nat), i < acc.length → (ancs l acc).getD i 0 = acc.getD i 0
  | [], acc, i, _ => rfl
  | o :: l, acc, i, h => by
    show (ancs l (acc ++ [_])).getD i 0 = _
    rw [ancs_low l _ i (by rw [List.length_append]; omega)]
    simp only [List.getD_eq_getElem?_getD]
    rw [List.getElem?_append_left h]
theorem ancs_cons (o : Oper) (l : List Oper) (acc : List Nat) : ancs (o :: l) acc = ancs l (acc ++ [(direct o).foldl (fun m i => addBit (m ||| acc.getD i 0) i) 0]) := rfl
theorem ancs_head {o' : Oper} {l : List Oper} {acc : List Nat} {j : Nat} (hb : bit ((ancs (o' :: l) acc).getD acc.length 0) j = true) : ∃ d ∈ direct o', j = d ∨ bit ((ancs (o' :: l) acc).getD d 0) j = true := by
  rw [ancs_cons] at hb ⊢
  generalize hx : (direct o').foldl (fun m i => addBit (m ||| acc.getD i 0) i) 0 = x at hb ⊢
  rw [ancs_low l _ _ (by simp)] at hb
  have hb' : bit x j = true := by
    simpa using hb
  rw [← hx] at hb'
  rcases bit_fold hb' with h | ⟨d, hd, h⟩
  · simp [bit] at h
  · refine ⟨d, hd, h.imp id fun h => ?_⟩
    have hdl : d < acc.length := by
      rcases Nat.lt_or_ge d acc.length with q | q
      · exact q
      · simp only [List.getD_eq_getElem?_getD, List.getElem?_eq_none q] at h
        simp [bit] at h
    rw [ancs_low l _ d (by rw [List.length_append]; omega)]
    simp only [List.getD_eq_getElem?_getD] at h ⊢
    rw [List.getElem?_append_left hdl]; exact h
theorem ancs_spec {o : Oper} {j : Nat} (l : List Oper) : ∀ (acc : List Nat) (k : Nat), l[k]? = some o → bit ((ancs l acc).getD (acc.length + k) 0) j = true → ∃ d ∈ direct o, j = d ∨ bit ((ancs l acc).getD d 0) j = true := by
  induction l with
  | nil => intro acc k h; cases h
  | cons o' l ih =>
    intro acc k h hb
    cases k with
    | zero =>
      injection h with h; subst h
      exact ancs_head hb
    | succ k =>
      rw [ancs_cons] at hb ⊢
      refine ih _ k h ?_
      rw [List.length_append]
      rw [show acc.length + [(direct o').foldl (fun m i => addBit (m ||| acc.getD i 0) i) 0].length + k = acc.length + (k + 1) by rw [List.length_singleton]; omega]
      exact hb
theorem edgesBack_spec {o : Oper} (l : List Oper) : ∀ (i k : Nat), edgesBack l i = true → l[k]? = some o → ∀ d ∈ direct o, d < i + k := by
  induction l with
  | nil => intro i k _ h; cases h
  | cons o' l ih =>
    intro i k h hk d hd
    unfold edgesBack at h
    simp only [Bool.and_eq_true] at h
    cases k with
    | zero =>
      injection hk with hk; subst hk
      have := List.all_eq_true.1 h.1 d hd
      simpa using this
    | succ k =>
      have := ih (i + 1) k h.2 hk d hd
      omega
theorem regPairs_spec {ops : Array Oper} {cs : List COp} {ps : List (Nat × Nat)} (h : regPairs ops cs = some ps) : edgesBack ops.toList 0 = true ∧
    ∀ i j, i < j → j < ops.size → bit ((ancs ops.toList []).getD j 0) i = false → opt2 cs i j indepC = true ∧ (opt2 cs i j quietC = false → (i, j) ∈ ps) := by
  unfold regPairs at h
  dsimp only at h
  split at h
  · rename_i hc
    simp only [Bool.and_eq_true] at hc
    injection h with h; subst h
    refine ⟨hc.1, fun i j hij hj hb => ?_⟩
    have hm : (i, j) ∈ unordered ops := by
      unfold unordered allPairs
      rw [List.mem_filter]
      refine ⟨List.mem_flatMap.2 ⟨j, List.mem_range.2 hj, List.mem_map.2 ⟨i, List.mem_range.2 hij, rfl⟩⟩, ?_⟩
      show (!bit ((ancs ops.toList []).getD j 0) i) = true
      rw [hb]; rfl
    refine ⟨List.all_eq_true.1 hc.2 (i, j) hm, fun hq => List.mem_filter.2 ⟨hm, by simp [hq]⟩⟩
  · cases h
end Go.V

set_option linter.unusedVariables false
set_option linter.unusedSimpArgs false
namespace Go.V

def matchE : Out → Exit → Prop
  | .normal, .normal => True
  | .exit i, .exit j => i = j
  | .ret, .ret => True
  | _, _ => False

section
variable {gl : GlT} {P : Program} {att : Nat → Attr} {call : CallT} {L : LoopT} {w0 w : World} {g0 g : Gh} {ob0 : Objs} {n retS m : Nat} {ro : Bool} {a : Act} {st : St}

structure InvN (gl : GlT) (w0 : World) (g0 : Gh) (ob0 : Objs) (n m : Nat) (ro : Bool) (a : Act) (w : World) (g : Gh) (st : St) : Prop where
  inv : InvU gl w0 g0 ob0 n a w g st (· < st.nx)
  m : st.m = m
  ro : st.ro = ro

def PostE (gl : GlT) (w0 : World) (g0 : Gh) (ob0 : Objs) (n m : Nat) (ro : Bool) (r : Out × St) (e : Exit) (a : Act) (w : World) : Prop :=
  matchE r.1 e ∧ ∃ g, InvN gl w0 g0 ob0 n m ro a w g r.2

theorem RunL.same {E : Nat → Eff} : ∀ {l : List (Nat × COp)} {st st' : St}, RunL att call E l st st' → st'.nx = st.nx ∧ st'.m = st.m ∧ st'.ro = st.ro
  | [], st, st', h => by
    have h' : Eqv st' st := h
    exact ⟨h'.nx.symm, h'.m.symm, h'.ro.symm⟩
  | (i, c) :: l, st, st', h => by
    obtain ⟨s1, h1, h2⟩ := h
    obtain ⟨a1, a2, a3⟩ := RunL.same h2
    obtain ⟨b1, b2, b3⟩ := step1_same h1
    exact ⟨a1.trans b1, a2.trans b2, a3.trans b3⟩

theorem region_ok (hm : P.follows .mixedOrders = true) (hcall : Callee gl P att call) {id : Nat} {ops : Array Oper} {draw : Bool} {out : Nat} {ex : List (Nat × Nat)} {vc : VC} (hc : compCode gl P n retS (.region id ops draw) out ex = some vc)
    (h : InvN gl w0 g0 ob0 n m ro a w g st) {r : Out × St} (hr : exec att call L vc st = some r) : (Code.region id ops draw).wp P (PostE gl w0 g0 ob0 n m ro r) a w := by
  unfold compCode at hc
  cases hco : compOps gl P ops 0 ops.toList with
  | none => rw [hco] at hc; cases hc
  | some cw =>
    obtain ⟨cs, W⟩ := cw
    rw [hco] at hc
    dsimp only at hc
    cases hd : dstsOk n cs with
    | false => rw [hd] at hc; cases hc
    | true =>
      rw [hd, if_pos rfl] at hc
      obtain ⟨c1, c2, c3, c4, c5⟩ := compOps_ok hco
      have hops : ∀ p ∈ enumC 0 cs, ∃ o, ops[p.1]? = some o ∧ OpOk gl P ops n o p.2 := by
        intro p hp
        obtain ⟨k, k1, k2⟩ := enumC_mem.1 hp
        rw [Nat.zero_add] at k1
        have hk : k < ops.toList.length := by rw [← c2]; exact (List.getElem?_eq_some_iff.1 k2).1
        obtain ⟨o, ho⟩ : ∃ o, ops.toList[k]? = some o := ⟨_, List.getElem?_eq_getElem hk⟩
        obtain ⟨c, q1, q2, q3, q4⟩ := c5 k o ho
        rw [k2] at q1; injection q1 with q1
        refine ⟨o, by rw [k1, ← Array.getElem?_toList]; exact ho, ⟨by rw [q1]; exact q2, by rw [q1]; exact q3, by rw [q1]; exact q4, fun t ht => dstsOk_mem hd p.2 (List.mem_of_getElem? k2) t ht⟩⟩
      have hfit : ∀ p ∈ enumC 0 cs, p.2.base + opW p.2.op ≤ W := by
        intro p hp
        obtain ⟨k, _, k2⟩ := enumC_mem.1 hp
        exact (c3 p.2 (List.mem_of_getElem? k2)).2
      have hU : ∀ k, k < st.nx → UR st.nx W (enumC 0 cs) k := fun k hk => ⟨by omega, fun p hp hr => by have := hr.1; omega⟩
      have fin : ∀ {st1 : St} {a : Act} {w : World} {g : Gh}, st1.m = st.m → st1.ro = st.ro → InvU gl w0 g0 ob0 n a w g st1 (UR st.nx W []) → PostE gl w0 g0 ob0 n m ro (.normal, ⟨st1.fr, st1.ob, st.nx + W, st1.m, st1.ro⟩) .normal a w := by
        intro st1 a w g e1 e2 q
        have q' := q.mono (U' := fun k => k < st.nx + W) fun k hk => hk.1
        exact ⟨trivial, g, ⟨q'.here, q'.low, q'.step, q'.shape, q'.sz, q'.df⟩, e1.trans h.m, e2.trans h.ro⟩
      have hlist : ∀ {E : Nat → Eff} {st1 : St}, RunL att call E (enumC 0 cs) st st1 → wpOps P ops (PostE gl w0 g0 ob0 n m ro (.normal, ⟨st1.fr, st1.ob, st.nx + W, st1.m, st1.ro⟩)) (List.range ops.size) a w := by
        intro E st1 hrun
        have e : List.range ops.size = (enumC 0 cs).map (·.1) := by rw [enumC_fst, c2, List.range_eq_range']; simp
        rw [e]
        exact region_list hcall (fun a w g q => fin hrun.same.2.1 hrun.same.2.2 q) (enumC 0 cs) a w g st hops (enumC_apart c4) hfit (h.inv.mono hU) rfl hrun
      have hany : ∀ {E : Nat → Eff} {st1 : St} {ps : List (Nat × Nat)}, regPairs ops cs = some ps → RunL att call E (enumC 0 cs) st st1 → (∀ i j, (i, j) ∈ ps → effOk (E i) (E j) = true) →
          (Code.region id ops true).wp P (PostE gl w0 g0 ob0 n m ro (.normal, ⟨st1.fr, st1.ob, st.nx + W, st1.m, st1.ro⟩)) a w := by
        intro E st1 ps hps hrun heff
        obtain ⟨p1, p2⟩ := regPairs_spec hps
        refine wp_region_any hm ?_
        refine region_any (an := fun j i => bit ((ancs ops.toList []).getD j 0) i = true) hcall (fun i o ho d hd => ?_) (fun i o j ho hb => ?_) (fun a w g q => fin hrun.same.2.1 hrun.same.2.2 q) ops.size (enumC 0 cs) _ a { w with drawn := w.drawn + 1 } g st (by rw [enumC_length, c2]; simp) (by simp) (fun i hi => ?_) (enumC_lt cs 0) hops (enumC_apart c4) hfit (fun i hi => ?_) (fun p hp q hq hlt han => ?_) ((h.inv.mono hU).world (w' := { w with drawn := w.drawn + 1 }) rfl rfl rfl rfl) rfl hrun
        · have := edgesBack_spec ops.toList 0 i p1 (by rw [Array.getElem?_toList]; exact ho) d hd
          omega
        · have := ancs_spec (j := j) ops.toList [] i (by rw [Array.getElem?_toList]; exact ho) (by simpa using hb)
          exact this
        · constructor
          · intro _
            have hk : i < cs.length := by rw [c2]; simpa using hi
            exact ⟨cs[i], enumC_mem.2 ⟨i, by simp, List.getElem?_eq_getElem hk⟩⟩
          · intro _
            simp [hi]
        · exfalso
          rcases Nat.lt_or_ge i ops.size with q | q
          · simp [q] at hi
          · simp [q] at hi
        · obtain ⟨i, i1, i2⟩ := enumC_mem.1 hp
          obtain ⟨j, j1, j2⟩ := enumC_mem.1 hq
          rw [Nat.zero_add] at i1 j1
          have hj : j < ops.size := by have := (List.getElem?_eq_some_iff.1 j2).1; rw [c2] at this; simpa using this
          have hij : i < j := by omega
          have hb : bit ((ancs ops.toList []).getD j 0) i = false := by
            rw [i1, j1] at han
            simpa using han
          obtain ⟨o1, o2⟩ := p2 i j hij hj hb
          unfold opt2 at o1 o2
          rw [i2, j2] at o1 o2
          refine ⟨o1, ?_⟩
          cases hq2 : quietC p.2 q.2 with
          | true => exact quiet_eff hrun hp hq hq2
          | false => rw [i1, j1]; exact heff i j (o2 hq2)
      cases draw with
      | false =>
        rw [if_neg (by simp)] at hc
        injection hc with hc; subst hc
        obtain ⟨st1, h1, h2⟩ := obind_eq (show obind (steps att call cs st) (fun st' => endReg W st.nx st') = some r from hr)
        obtain ⟨E, hrun⟩ := steps_run (fun _ => ⟨[], []⟩) (i := 0) h1
        injection h2 with h2; subst h2
        exact wp_region (hlist hrun)
      | true =>
        rw [if_pos rfl] at hc
        cases hps : regPairs ops cs with
        | none => rw [hps] at hc; cases hc
        | some ps =>
          rw [hps] at hc
          cases ps with
          | nil =>
            injection hc with hc; subst hc
            obtain ⟨st1, h1, h2⟩ := obind_eq (show obind (steps att call cs st) (fun st' => endReg W st.nx st') = some r from hr)
            obtain ⟨E, hrun⟩ := steps_run (fun _ => ⟨[], []⟩) (i := 0) h1
            injection h2 with h2; subst h2
            exact hany hps hrun fun i j hm => by cases hm
          | cons x ps =>
            injection hc with hc; subst hc
            obtain ⟨p, h1, h2⟩ := obind_eq (show obind (stepsE att call cs st []) (fun r => need (pairsOk r.2 (x :: ps)) (endReg W st.nx r.1)) = some r from hr)
            obtain ⟨h3, h4⟩ := need_some h2
            obtain ⟨es', e1, e2⟩ := stepsE_run h1
            have hrun := e2 (fun k => es'.getD k ⟨[], []⟩) (fun k => by simp)
            rw [List.nil_append] at e1
            injection h4 with h4; subst h4
            refine hany hps hrun fun i j hmem => ?_
            have := pairsOk_mem h3 hmem
            rw [e1] at this; exact this

/-- a loop's rounds, from its head -/
def LoopWp (P : Program) (c : Code) (Q : Exit → Act → World → Prop) (a : Act) (w : World) : Prop :=
  ∀ (b : Frame) (k : List Item) (cs : List Frame), ∃ e a' w', Q e a' w' ∧ Arrives P (lone (b.at a (.code c :: .inLoop c :: k)) cs w) b k cs e a' w'

def LoopOK (gl : GlT) (P : Program) (n retS : Nat) (L : LoopT) : Prop :=
  ∀ (keep : List Nat) (vc : VC) (c : Code) (out : Nat) (ex : List (Nat × Nat)), compCode gl P n retS c out ex = some vc →
    ∀ (w0 : World) (g0 : Gh) (ob0 : Objs) (m : Nat) (ro : Bool) (a : Act) (w : World) (g : Gh) (st : St) (r : Out × St), InvN gl w0 g0 ob0 n m ro a w g st → L keep vc st = some r → LoopWp P c (PostE gl w0 g0 ob0 n m ro r) a w

theorem norm_inv (h : InvN gl w0 g0 ob0 n m ro a w g st) (keep : List Nat) : ∃ g', InvN gl w0 g0 ob0 n m ro a w g' (norm keep st) := by
  have hi : Inv gl w0 g0 ob0 a w g st := ⟨h.inv.here, by
    rcases Nat.lt_or_ge st.nx st.m with q | q
    · exact absurd (h.inv.low st.nx q) (Nat.lt_irrefl _)
    · exact q, h.inv.step, h.inv.shape⟩
  obtain ⟨g', q⟩ := norm_ok hi keep
  exact ⟨g', ⟨q.here, fun k hk => Nat.lt_of_lt_of_le hk q.low, q.step, q.shape, h.inv.sz, h.inv.df⟩, h.m, h.ro⟩

theorem exec_ok (hm : P.follows .mixedOrders = true) (hcall : Callee gl P att call) (hL : LoopOK gl P n retS L) : ∀ (c : Code) (out : Nat) (ex : List (Nat × Nat)) (vc : VC), compCode gl P n retS c out ex = some vc →
    ∀ (a : Act) (w : World) (g : Gh) (st : St) (r : Out × St), InvN gl w0 g0 ob0 n m ro a w g st → exec att call L vc st = some r → c.wp P (PostE gl w0 g0 ob0 n m ro r) a w := by
  intro c
  induction c with
  | skip =>
    intro out ex vc hc a w g st r h hr
    injection hc with hc; subst hc
    injection hr with hr; subst hr
    exact wp_skip ⟨trivial, g, h⟩
  | region id ops draw =>
    intro out ex vc hc a w g st r h hr
    exact region_ok hm hcall hc h hr
  | seq x y ihx ihy =>
    intro out ex vc hc a w g st r h hr
    unfold compCode at hc
    cases hx : compCode gl P n retS x (live retS y out ex) ex with
    | none => rw [hx] at hc; cases hc
    | some vx => cases hy : compCode gl P n retS y out ex with
      | none => rw [hx, hy] at hc; cases hc
      | some vy =>
        rw [hx, hy] at hc
        injection hc with hc; subst hc
        obtain ⟨r1, h1, h2⟩ := obind_eq (show obind (exec att call L vx st) (fun r => thenDo (fun st => exec att call L vy st) r.1 r.2) = some r from hr)
        refine wp_seq (wp_mono (ihx _ _ _ hx a w g st r1 h h1) ?_)
        rintro e a1 w1 ⟨hm1, g1, hi⟩
        obtain ⟨o1, s1⟩ := r1
        cases o1 with
        | normal =>
          cases e with
          | normal => exact ihy _ _ _ hy a1 w1 g1 s1 r hi h2
          | _ => cases hm1
        | exit i =>
          injection h2 with h2; subst h2
          cases e with
          | exit j => exact ⟨hm1, g1, hi⟩
          | _ => cases hm1
        | ret =>
          injection h2 with h2; subst h2
          cases e with
          | ret => exact ⟨hm1, g1, hi⟩
          | _ => cases hm1
  | cond c x y ihx ihy =>
    intro out ex vc hc a w g st r h hr
    unfold compCode at hc
    cases ho : opd gl P 0 c with
    | none => rw [ho] at hc; cases hc
    | some vo => cases hx : compCode gl P n retS x out ex with
      | none => rw [ho, hx] at hc; cases hc
      | some vx => cases hy : compCode gl P n retS y out ex with
        | none => rw [ho, hx, hy] at hc; cases hc
        | some vy =>
          rw [ho, hx, hy] at hc
          injection hc with hc; subst hc
          obtain ⟨t, h1, h2⟩ := obind_eq (show obind (boolOf (vo.ev st.fr)) (fun t => bcond t (fun _ => exec att call L vx st) (fun _ => exec att call L vy st)) = some r from hr)
          have e1 := h.inv.here.opd ho
          have ev : a.eval c = .bool t := by
            generalize vo.ev st.fr = v at h1 e1
            cases v with
            | d z => cases z with
              | bool b => injection h1 with h1; subst h1; exact e1
              | _ => cases h1
            | _ => cases h1
          refine wp_cond ev ?_
          cases t with
          | true => exact ihx _ _ _ hx a w g st r h h2
          | false => exact ihy _ _ _ hy a w g st r h h2
  | block id c ih =>
    intro out ex vc hc a w g st r h hr
    obtain ⟨vc1, hx, rfl⟩ := Option.map_eq_some_iff.1 (show (compCode gl P n retS c out ((id, out) :: ex)).map (VC.block id ·) = some vc from hc)
    obtain ⟨r1, h1, h2⟩ := obind_eq (show obind (exec att call L vc1 st) (fun r => blockOut id r.1 r.2) = some r from hr)
    refine wp_block (wp_mono (ih _ _ _ hx a w g st r1 h h1) ?_)
    rintro e a1 w1 ⟨hm1, g1, hi⟩
    obtain ⟨o1, s1⟩ := r1
    cases o1 with
    | normal =>
      injection h2 with h2; subst h2
      cases e with
      | normal => exact ⟨trivial, g1, hi⟩
      | _ => cases hm1
    | exit i =>
      cases e with
      | exit j =>
        have hij : i = j := hm1
        subst hij
        have h2' : (match Nat.beq i id with | true => some (Out.normal, s1) | false => some (Out.exit i, s1)) = some r := h2
        show (if i = id then PostE gl w0 g0 ob0 n m ro r .normal a1 w1 else PostE gl w0 g0 ob0 n m ro r (.exit i) a1 w1)
        by_cases e : i = id
        · rw [if_pos e]
          rw [e, Nat.beq_refl] at h2'
          injection h2' with h2'; subst h2'
          exact ⟨trivial, g1, hi⟩
        · rw [if_neg e]
          cases hb : Nat.beq i id with
          | true => exact absurd (Nat.eq_of_beq_eq_true hb) e
          | false =>
            rw [hb] at h2'
            injection h2' with h2'; subst h2'
            exact ⟨rfl, g1, hi⟩
      | _ => cases hm1
    | ret =>
      injection h2 with h2; subst h2
      cases e with
      | ret => exact ⟨trivial, g1, hi⟩
      | _ => cases hm1
  | loop c ih =>
    intro out ex vc hc a w g st r h hr
    obtain ⟨vc1, hx, rfl⟩ := Option.map_eq_some_iff.1 (show (compCode gl P n retS c (live retS (.loop c) out ex) ex).map (VC.loop (bitsL n (live retS (.loop c) out ex)) ·) = some vc from hc)
    obtain ⟨g', h'⟩ := norm_inv h (bitsL n (live retS (.loop c) out ex))
    have := hL _ vc1 c _ _ hx w0 g0 ob0 m ro a w g' _ r h' hr
    intro b k cs
    obtain ⟨e, a1, w1, q, harr⟩ := this b k cs
    exact ⟨e, a1, w1, q, .of_steps (.one step_loop) harr⟩
  | exit id =>
    intro out ex vc hc a w g st r h hr
    injection hc with hc; subst hc
    injection hr with hr; subst hr
    exact wp_exit ⟨rfl, g, h⟩
  | ret =>
    intro out ex vc hc a w g st r h hr
    injection hc with hc; subst hc
    injection hr with hr; subst hr
    exact wp_ret ⟨trivial, g, h⟩
  | _ => intro out ex vc hc; cases hc

theorem loop_ok (hm : P.follows .mixedOrders = true) (hcall : Callee gl P att call) : ∀ k, LoopOK gl P n retS (loopI att call k)
  | 0 => fun keep vc c out ex hc w0 g0 ob0 m ro a w g st r h hr => by cases hr
  | k + 1 => fun keep vc c out ex hc w0 g0 ob0 m ro a w g st r h hr => by
    obtain ⟨r1, h1, h2⟩ := obind_eq (show obind (exec att call (loopI att call k) vc st) (fun r => thenDo (fun st => loopI att call k keep vc (norm keep st)) r.1 r.2) = some r from hr)
    have hwp := exec_ok (w0 := w0) (g0 := g0) (ob0 := ob0) (m := m) (ro := ro) hm hcall (loop_ok hm hcall k) c out ex vc hc a w g st r1 h h1
    intro b kk cs
    obtain ⟨e, a1, w1, ⟨hm1, g1, hi⟩, harr⟩ := hwp b (.inLoop c :: kk) cs
    obtain ⟨o1, s1⟩ := r1
    cases o1 with
    | normal =>
      cases e with
      | normal =>
        obtain ⟨g2, hi2⟩ := norm_inv hi keep
        obtain ⟨e2, a2, w2, q2, harr2⟩ := loop_ok hm hcall k keep vc c out ex hc w0 g0 ob0 m ro a1 w1 g2 _ r hi2 h2 b kk cs
        exact ⟨e2, a2, w2, q2, .of_steps (Steps.trans harr (.one step_inLoop)) harr2⟩
      | _ => cases hm1
    | exit i =>
      injection h2 with h2; subst h2
      cases e with
      | exit j => exact ⟨_, a1, w1, ⟨hm1, g1, hi⟩, .pass (x := .inLoop c) rfl (fun _ _ => .inl (by simp)) harr⟩
      | _ => cases hm1
    | ret =>
      injection h2 with h2; subst h2
      cases e with
      | ret => exact ⟨_, a1, w1, ⟨hm1, g1, hi⟩, .pass (x := .inLoop c) rfl (fun _ _ => .inl (by simp)) harr⟩
      | _ => cases hm1

theorem enumFr_get : ∀ (l : List AV) (i t : Nat), fget (enumFr i l) t = if i ≤ t then (l[t - i]?).getD .any else .any
  | [], i, t => by show AV.any = _; split <;> simp
  | v :: l, i, t => by
    show fget ((i, v) :: enumFr (i + 1) l) t = _
    rw [fget_cons, enumFr_get l (i + 1) t]
    by_cases h : i = t
    · subst h; simp
    · by_cases h2 : i ≤ t
      · rw [if_neg h, if_pos (by omega), if_pos h2]
        rw [show t - i = (t - (i + 1)) + 1 by omega]; rfl
      · rw [if_neg h, if_neg (by omega), if_neg h2]
theorem VReps.nth : ∀ {c : Cx} {l : List AV} {vs : List Value} {t : Nat} {v : AV}, VReps c l vs → l[t]? = some v → ∃ u, vs[t]? = some u ∧ VRep c v u
  | c, x :: l, vs, 0, v, h, e => by
    obtain ⟨u, vs', rfl, h1, h2⟩ := h
    injection e with e; subst e
    exact ⟨u, rfl, h1⟩
  | c, x :: l, vs, t + 1, v, h, e => by
    obtain ⟨u, vs', rfl, h1, h2⟩ := h
    have := VReps.nth (t := t) h2 e
    exact this

theorem runFn_ok (hm : P.follows .mixedOrders = true) (hcall : Callee gl P att call) {f k : Nat} {fn : VFn} (hc : compFn gl P f = some fn) {args : List AV} {ob : Objs} {r : AV × Objs}
    (hr : runFn att call (loopI att call k) ro fn args ob = some r) : CallOK gl P ro f args ob r := by
  intro w g vals hg ha hn hgl
  unfold compFn at hc
  cases hf : P.funcs[f]? with
  | none => rw [hf] at hc; cases hc
  | some F =>
    rw [hf] at hc
    dsimp only at hc
    cases hb : F.body with
    | none => rw [hb] at hc; cases hc
    | some c =>
      rw [hb] at hc
      dsimp only at hc
      cases hv : compCode gl P F.ntmps (resSlots F.results.toList) c (resSlots F.results.toList) [] with
      | none => rw [hv] at hc; cases hc
      | some vc => cases hrs : allSome (compRes P) F.results.toList with
        | none => rw [hv, hrs] at hc; cases hc
        | some rs =>
          rw [hv, hrs] at hc
          injection hc with hc; subst hc
          obtain ⟨r1, h1, h2⟩ := obind_eq (show obind (exec att call (loopI att call k) vc ⟨enumFr 0 args, ob, ob.length, ob.length, ro⟩) (fun r => finish ⟨rs, vc⟩ r.1 r.2) = some r from hr)
          refine calls_of_wp hf hb ?_
          have hinit : InvN gl w g ob F.ntmps ob.length ro { tmps := vals.toArray ++ Array.replicate (F.ntmps - vals.toArray.size) undef, defers := [] } w g ⟨enumFr 0 args, ob, ob.length, ob.length, ro⟩ := by
            refine ⟨⟨⟨hg, fun t => ?_, fun t => ?_, hgl⟩, fun k hk => hk, Step.refl w g ob _ _ hg.in, fun _ => Shape.refl _ _, ?_, rfl⟩, rfl, rfl⟩
            · show VRep (cx w g ob) (fget (enumFr 0 args) t) _
              rw [enumFr_get, if_pos (Nat.zero_le t), Nat.sub_zero]
              cases ht : args[t]? with
              | none => exact trivial
              | some v =>
                obtain ⟨u, q1, q2⟩ := VReps.nth ha ht
                have hlt := (List.getElem?_eq_some_iff.1 q1).1
                have : (vals.toArray ++ Array.replicate (F.ntmps - vals.toArray.size) undef).getD t undef = u := by
                  rw [Array.getD_eq_getD_getElem?, Array.getElem?_append_left (by simpa using hlt), List.getElem?_toArray, q1]; rfl
                show VRep (cx w g ob) v ((vals.toArray ++ Array.replicate (F.ntmps - vals.toArray.size) undef).getD t undef)
                rw [this]; exact q2
            · show NamesIn _ (fget (enumFr 0 args) t).names
              rw [enumFr_get, if_pos (Nat.zero_le t), Nat.sub_zero]
              cases ht : args[t]? with
              | none => exact fun _ h => by cases h
              | some v => exact fun o ho => hn o (namesL_mem (List.mem_of_getElem? ht) ho)
            · simp; omega
          refine wp_mono (exec_ok (w0 := w) (g0 := g) (ob0 := ob) (m := ob.length) (ro := ro) hm hcall (loop_ok hm hcall k) c _ _ vc hv _ w g _ r1 hinit h1) ?_
          rintro e a1 w1 ⟨hm1, g1, hi⟩
          obtain ⟨o1, s1⟩ := r1
          have key : finish ⟨rs, vc⟩ .normal s1 = some r → a1.defers = [] ∧ ∃ v, (results F a1.tmps).run P w1 = .ok v w1 ∧ ∃ v', Ending.returned v = .returned v' ∧ Gives w g ob ob.length ro r v' w1 := by
            intro hfin
            refine ⟨hi.inv.df, ?_⟩
            obtain ⟨vs, q1, q2⟩ := obind_eq (show obind (allSome (resOf s1) rs) (fun vs => fin1 s1 vs) = some r from hfin)
            obtain ⟨u, p1, p2, p3⟩ := results_ok (P := P) hi.inv.here rfl rfl hrs q1
            refine ⟨u, p1, u, rfl, ?_⟩
            have hlow : s1.m ≤ s1.nx := by
              rcases Nat.lt_or_ge s1.nx s1.m with q | q
              · exact absurd (hi.inv.low s1.nx q) (Nat.lt_irrefl _)
              · exact q
            obtain ⟨g', k1, k2, k3, k4, k5, k6, k7⟩ := canon_ok (roots := [oneOrTup vs]) (vs := [u]) hi.inv.here.good hlow ⟨u, [], rfl, p2, rfl⟩ (fun o ho => by
              rcases List.mem_append.1 (show o ∈ (oneOrTup vs).names ++ [] from ho) with ho | ho
              · exact p3 o ho
              · cases ho) hi.inv.step
            have hfin2 : some ((canon s1.m s1.nx [oneOrTup vs] s1.ob).roots.headD .any, (canon s1.m s1.nx [oneOrTup vs] s1.ob).ob) = some r := q2
            injection hfin2 with hfin2; subst hfin2
            have em : s1.m = ob.length := hi.m
            have er : s1.ro = ro := hi.ro
            refine ⟨g', k1.mono fun _ _ => trivial, ?_, ?_, fun hro => ?_⟩
            · show VRep (cx w1 g' (canon s1.m s1.nx [oneOrTup vs] s1.ob).ob) ((canon s1.m s1.nx [oneOrTup vs] s1.ob).roots.headD .any) u
              generalize (canon s1.m s1.nx [oneOrTup vs] s1.ob).roots = rts at k3
              cases rts with
              | nil => cases k3
              | cons v l =>
                obtain ⟨u', us', e, k3, _⟩ := k3
                injection e with e1 e2; subst e1; exact k3
            · have := k5
              rw [em, er] at this
              rw [em]
              exact this
            · have t1 := hi.inv.shape (er.trans hro)
              have := t1.trans k6
              rw [em] at this
              rw [em]
              exact this
          cases o1 with
          | normal =>
            cases e with
            | normal => exact key h2
            | _ => cases hm1
          | ret =>
            cases e with
            | ret => exact key h2
            | _ => cases hm1
          | exit i => cases h2

/-- the machine's runs are the program's -/
theorem run_ok (hm : P.follows .mixedOrders = true) {vf : Nat → Option VFn} {ext : ExtT} (hvf : ∀ f fn, vf f = some fn → compFn gl P f = some fn) (hen : ∀ f fn, vf f = some fn → Enters P f)
    (hext : ∀ f e, ext f = some e → ∀ args ob r, e args ob = some r → Enters P f ∧ CallOK gl P (att f).ro f args ob r) : ∀ k, Callee gl P att (run vf att ext k)
  | 0 => fun f args ob r h => by cases h
  | k + 1 => fun f args ob r h => by
    unfold run at h
    cases he : ext f with
    | some e => rw [he] at h; exact hext f e he args ob r h
    | none =>
      rw [he] at h
      dsimp only at h
      cases hv : vf f with
      | none => rw [hv] at h; cases h
      | some fn =>
        rw [hv] at h
        exact ⟨hen f fn hv, runFn_ok hm (run_ok hm hvf hen hext k) (hvf f fn hv) h⟩
end
end Go.V

set_option linter.unusedVariables false
set_option linter.unusedSimpArgs false
namespace Go.V

def LeC (c c' : CallT) : Prop := ∀ f a o r, c f a o = some r → c' f a o = some r
def LeL (l l' : LoopT) : Prop := ∀ k c s r, l k c s = some r → l' k c s = some r
theorem LeC.refl (c : CallT) : LeC c c := fun _ _ _ _ h => h
theorem LeC.trans {a b c : CallT} (h : LeC a b) (k : LeC b c) : LeC a c := fun f x o r q => k f x o r (h f x o r q)
theorem LeL.trans {a b c : LoopT} (h : LeL a b) (k : LeL b c) : LeL a c := fun f x o r q => k f x o r (h f x o r q)

theorem obind_mk {α β : Type} {x : Option α} {f : α → Option β} {a : α} {y : β} (h : x = some a) (k : f a = some y) : obind x f = some y := by rw [h]; exact k

section
variable {att : Nat → Attr}
theorem callIn_mono {c c' : CallT} (h : LeC c c') {a : Attr} {base f : Nat} {args : List AV} {ob sh : Objs} {rd names : List Nat} {r : R} (hr : callIn a c base f args ob sh rd names = some r) : callIn a c' base f args ob sh rd names = some r := by
  obtain ⟨p, h1, h2⟩ := obind_eq hr
  exact obind_mk (h _ _ _ _ h1) h2
theorem doCall_mono {c c' : CallT} (h : LeC c c') {a : Attr} {base f : Nat} {args : List AV} {ob : Objs} {r : R} (hr : doCall a c base f args ob = some r) : doCall a c' base f args ob = some r := by
  unfold doCall at hr ⊢
  cases hb : a.byref <;> rw [hb] at hr <;> exact callIn_mono h hr
theorem stepOp_mono {c c' : CallT} (h : LeC c c') {base : Nat} {fr : Fr} {ob : Objs} {v : VOp} {r : R} (hr : stepOp att c base fr ob v = some r) : stepOp att c' base fr ob v = some r := by
  cases v with
  | call f args => exact doCall_mono h hr
  | callv x args =>
    have hr' : callvR att c base (evL fr args) ob (x.ev fr) = some r := hr
    show callvR att c' base (evL fr args) ob (x.ev fr) = some r
    cases hx : x.ev fr <;> rw [hx] at hr' <;> first | (cases hr'; done) | skip
    rename_i f cap
    have h2 : bcond (Nat.ble 32768 f) (fun _ => doCall (att (f - 32768)) c base (f - 32768) (cap ++ evL fr args) ob) (fun _ => doCall (att f) c base f (evL fr args ++ cap) ob) = some r := hr'
    show bcond (Nat.ble 32768 f) (fun _ => doCall (att (f - 32768)) c' base (f - 32768) (cap ++ evL fr args) ob) (fun _ => doCall (att f) c' base f (evL fr args ++ cap) ob) = some r
    cases hb : Nat.ble 32768 f <;> rw [hb] at h2
    · exact doCall_mono h h2
    · exact doCall_mono h h2
  | _ => exact hr
theorem step1_mono {c c' : CallT} (h : LeC c c') {o : COp} {st : St} {p : St × Eff} (hr : step1 att c o st = some p) : step1 att c' o st = some p := by
  have main : ∀ {p}, runOp att c o st = some p → runOp att c' o st = some p := by
    intro p hp
    obtain ⟨r, h1, h2⟩ := obind_eq hp
    exact obind_mk (stepOp_mono h h1) h2
  unfold step1 at hr ⊢
  cases hg : o.guard with
  | none => rw [hg] at hr; exact main hr
  | some tw =>
    rw [hg] at hr
    obtain ⟨b, h1, h2⟩ := obind_eq hr
    refine obind_mk h1 ?_
    cases b with
    | true => exact main h2
    | false => exact h2
theorem steps_mono {c c' : CallT} (h : LeC c c') : ∀ {l : List COp} {st st' : St}, steps att c l st = some st' → steps att c' l st = some st'
  | [], _, _, hr => hr
  | o :: l, st, st', hr => by
    obtain ⟨p, h1, h2⟩ := obind_eq hr
    exact obind_mk (step1_mono h h1) (steps_mono h h2)
theorem stepsE_mono {c c' : CallT} (h : LeC c c') : ∀ {l : List COp} {st : St} {es : List Eff} {p : St × List Eff}, stepsE att c l st es = some p → stepsE att c' l st es = some p
  | [], _, _, _, hr => hr
  | o :: l, st, es, p, hr => by
    obtain ⟨q, h1, h2⟩ := obind_eq hr
    exact obind_mk (step1_mono h h1) (stepsE_mono h h2)
theorem exec_mono {c c' : CallT} {L L' : LoopT} (h : LeC c c') (hl : LeL L L') : ∀ {vc : VC} {st : St} {r : Out × St}, exec att c L vc st = some r → exec att c' L' vc st = some r
  | .skip, _, _, hr => hr
  | .reg ops w, st, r, hr => by
    obtain ⟨s, h1, h2⟩ := obind_eq (show obind (steps att c ops st) (fun st' => endReg w st.nx st') = some r from hr)
    exact obind_mk (x := steps att c' ops st) (steps_mono h h1) h2
  | .regd ops w ps, st, r, hr => by
    obtain ⟨s, h1, h2⟩ := obind_eq (show obind (stepsE att c ops st []) (fun r => need (pairsOk r.2 ps) (endReg w st.nx r.1)) = some r from hr)
    exact obind_mk (x := stepsE att c' ops st []) (stepsE_mono h h1) h2
  | .seq a b, st, r, hr => by
    obtain ⟨⟨o, s⟩, h1, h2⟩ := obind_eq (show obind (exec att c L a st) (fun r => thenDo (fun st => exec att c L b st) r.1 r.2) = some r from hr)
    refine obind_mk (x := exec att c' L' a st) (exec_mono h hl h1) ?_
    cases o with
    | normal => exact exec_mono h hl (show exec att c L b s = some r from h2)
    | _ => exact h2
  | .cond x a b, st, r, hr => by
    obtain ⟨t, h1, h2⟩ := obind_eq (show obind (boolOf (x.ev st.fr)) (fun t => bcond t (fun _ => exec att c L a st) (fun _ => exec att c L b st)) = some r from hr)
    refine obind_mk (x := boolOf (x.ev st.fr)) h1 ?_
    cases t with
    | true => exact exec_mono h hl (show exec att c L a st = some r from h2)
    | false => exact exec_mono h hl (show exec att c L b st = some r from h2)
  | .block id a, st, r, hr => by
    obtain ⟨s, h1, h2⟩ := obind_eq (show obind (exec att c L a st) (fun r => blockOut id r.1 r.2) = some r from hr)
    exact obind_mk (x := exec att c' L' a st) (exec_mono h hl h1) h2
  | .loop keep a, st, r, hr => hl _ _ _ _ hr
  | .exit id, _, _, hr => hr
  | .ret, _, _, hr => hr
theorem loopI_mono {c c' : CallT} (h : LeC c c') : ∀ {n n' : Nat}, n ≤ n' → LeL (loopI att c n) (loopI att c' n')
  | 0, _, _ => fun _ _ _ _ h => by cases h
  | n + 1, 0, hn => by omega
  | n + 1, n' + 1, hn => fun keep vc st r hr => by
    have ih := loopI_mono h (show n ≤ n' by omega)
    obtain ⟨⟨o, s⟩, h1, h2⟩ := obind_eq (show obind (exec att c (loopI att c n) vc st) (fun r => thenDo (fun st => loopI att c n keep vc (norm keep st)) r.1 r.2) = some r from hr)
    refine obind_mk (x := exec att c' (loopI att c' n') vc st) (exec_mono h ih h1) ?_
    cases o with
    | normal => exact ih _ _ _ _ h2
    | _ => exact h2
end

section
variable {vf : Nat → Option VFn} {att : Nat → Attr} {ext : ExtT}
theorem run_mono1 : ∀ (k : Nat), LeC (run vf att ext k) (run vf att ext (k + 1))
  | 0 => fun _ _ _ _ h => by cases h
  | k + 1 => fun f args ob r h => by
    have ih := run_mono1 k
    unfold run at h ⊢
    cases he : ext f with
    | some e => rw [he] at h; exact h
    | none =>
      rw [he] at h
      dsimp only at h ⊢
      cases hv : vf f with
      | none => rw [hv] at h; cases h
      | some fn =>
        rw [hv] at h
        dsimp only at h ⊢
        obtain ⟨p, h1, h2⟩ := obind_eq h
        exact obind_mk (exec_mono ih (loopI_mono ih (Nat.le_succ k)) h1) h2
theorem run_mono {k k' : Nat} (h : k ≤ k') : LeC (run vf att ext k) (run vf att ext k') := by
  induction h with
  | refl => exact LeC.refl _
  | step _ ih => exact ih.trans (run_mono1 _)

/-- the limits -/
noncomputable def runW (vf : Nat → Option VFn) (att : Nat → Attr) (ext : ExtT) : CallT := fun f args ob =>
  open Classical in if h : ∃ r, ∃ k, run vf att ext k f args ob = some r then some (Classical.choose h) else none
noncomputable def loopW (vf : Nat → Option VFn) (att : Nat → Attr) (ext : ExtT) : LoopT := fun keep c st =>
  open Classical in if h : ∃ r, ∃ k, loopI att (run vf att ext k) k keep c st = some r then some (Classical.choose h) else none

theorem runW_mk {k f : Nat} {args : List AV} {ob : Objs} {r : AV × Objs} (h : run vf att ext k f args ob = some r) : runW vf att ext f args ob = some r := by
  have hx : ∃ r, ∃ k, run vf att ext k f args ob = some r := ⟨r, k, h⟩
  unfold runW
  rw [dif_pos hx]
  obtain ⟨k', h'⟩ := Classical.choose_spec hx
  have a := run_mono (Nat.le_max_left k k') _ _ _ _ h
  have b := run_mono (Nat.le_max_right k k') _ _ _ _ h'
  rw [a] at b
  exact b.symm
theorem runW_out {f : Nat} {args : List AV} {ob : Objs} {r : AV × Objs} (h : runW vf att ext f args ob = some r) : ∃ k, run vf att ext k f args ob = some r := by
  unfold runW at h
  by_cases hx : ∃ r, ∃ k, run vf att ext k f args ob = some r
  · rw [dif_pos hx] at h
    obtain ⟨k', h'⟩ := Classical.choose_spec hx
    injection h with h
    exact ⟨k', h ▸ h'⟩
  · rw [dif_neg hx] at h; cases h
theorem loopK_mono {k k' : Nat} (h : k ≤ k') : LeL (loopI att (run vf att ext k) k) (loopI att (run vf att ext k') k') := loopI_mono (run_mono h) h
theorem loopW_mk {k : Nat} {keep : List Nat} {c : VC} {st : St} {r : Out × St} (h : loopI att (run vf att ext k) k keep c st = some r) : loopW vf att ext keep c st = some r := by
  have hx : ∃ r, ∃ k, loopI att (run vf att ext k) k keep c st = some r := ⟨r, k, h⟩
  unfold loopW
  rw [dif_pos hx]
  obtain ⟨k', h'⟩ := Classical.choose_spec hx
  have a := loopK_mono (Nat.le_max_left k k') _ _ _ _ h
  have b := loopK_mono (Nat.le_max_right k k') _ _ _ _ h'
  rw [a] at b
  exact b.symm
theorem loopW_out {keep : List Nat} {c : VC} {st : St} {r : Out × St} (h : loopW vf att ext keep c st = some r) : ∃ k, loopI att (run vf att ext k) k keep c st = some r := by
  unfold loopW at h
  by_cases hx : ∃ r, ∃ k, loopI att (run vf att ext k) k keep c st = some r
  · rw [dif_pos hx] at h
    obtain ⟨k', h'⟩ := Classical.choose_spec hx
    injection h with h
    exact ⟨k', h ▸ h'⟩
  · rw [dif_neg hx] at h; cases h

/-! ### what the limits do, some run does -/
theorem callIn_fin {a : Attr} {base f : Nat} {args : List AV} {ob sh : Objs} {rd names : List Nat} {r : R} (hr : callIn a (runW vf att ext) base f args ob sh rd names = some r) : ∃ k, callIn a (run vf att ext k) base f args ob sh rd names = some r := by
  obtain ⟨p, h1, h2⟩ := obind_eq hr
  obtain ⟨k, h3⟩ := runW_out h1
  exact ⟨k, obind_mk h3 h2⟩
theorem doCall_fin {a : Attr} {base f : Nat} {args : List AV} {ob : Objs} {r : R} (hr : doCall a (runW vf att ext) base f args ob = some r) : ∃ k, doCall a (run vf att ext k) base f args ob = some r := by
  unfold doCall at hr
  cases hb : a.byref with
  | true => rw [hb] at hr; obtain ⟨k, h⟩ := callIn_fin hr; exact ⟨k, by unfold doCall; rw [hb]; exact h⟩
  | false => rw [hb] at hr; obtain ⟨k, h⟩ := callIn_fin hr; exact ⟨k, by unfold doCall; rw [hb]; exact h⟩
theorem stepOp_fin {base : Nat} {fr : Fr} {ob : Objs} {v : VOp} {r : R} (hr : stepOp att (runW vf att ext) base fr ob v = some r) : ∃ k, stepOp att (run vf att ext k) base fr ob v = some r := by
  cases v with
  | call f args => exact doCall_fin hr
  | callv x args =>
    have hr' : callvR att (runW vf att ext) base (evL fr args) ob (x.ev fr) = some r := hr
    show ∃ k, callvR att (run vf att ext k) base (evL fr args) ob (x.ev fr) = some r
    cases hx : x.ev fr <;> rw [hx] at hr' <;> first | (cases hr'; done) | skip
    rename_i f cap
    have h2 : bcond (Nat.ble 32768 f) (fun _ => doCall (att (f - 32768)) (runW vf att ext) base (f - 32768) (cap ++ evL fr args) ob) (fun _ => doCall (att f) (runW vf att ext) base f (evL fr args ++ cap) ob) = some r := hr'
    show ∃ k, bcond (Nat.ble 32768 f) (fun _ => doCall (att (f - 32768)) (run vf att ext k) base (f - 32768) (cap ++ evL fr args) ob) (fun _ => doCall (att f) (run vf att ext k) base f (evL fr args ++ cap) ob) = some r
    cases hb : Nat.ble 32768 f <;> rw [hb] at h2
    · exact doCall_fin h2
    · exact doCall_fin h2
  | _ => exact ⟨0, hr⟩
theorem step1_fin {o : COp} {st : St} {p : St × Eff} (hr : step1 att (runW vf att ext) o st = some p) : ∃ k, step1 att (run vf att ext k) o st = some p := by
  have main : ∀ {p}, runOp att (runW vf att ext) o st = some p → ∃ k, runOp att (run vf att ext k) o st = some p := by
    intro p hp
    obtain ⟨r, h1, h2⟩ := obind_eq hp
    obtain ⟨k, h3⟩ := stepOp_fin h1
    exact ⟨k, obind_mk h3 h2⟩
  unfold step1 at hr ⊢
  cases hg : o.guard with
  | none => rw [hg] at hr; exact main hr
  | some tw =>
    rw [hg] at hr
    obtain ⟨b, h1, h2⟩ := obind_eq hr
    cases b with
    | true => obtain ⟨k, h3⟩ := main h2; exact ⟨k, obind_mk h1 h3⟩
    | false => exact ⟨0, obind_mk h1 h2⟩
theorem steps_fin : ∀ {l : List COp} {st st' : St}, steps att (runW vf att ext) l st = some st' → ∃ k, steps att (run vf att ext k) l st = some st'
  | [], _, _, hr => ⟨0, hr⟩
  | o :: l, st, st', hr => by
    obtain ⟨p, h1, h2⟩ := obind_eq hr
    obtain ⟨k1, h3⟩ := step1_fin h1
    obtain ⟨k2, h4⟩ := steps_fin h2
    exact ⟨max k1 k2, obind_mk (step1_mono (run_mono (Nat.le_max_left k1 k2)) h3) (steps_mono (run_mono (Nat.le_max_right k1 k2)) h4)⟩
theorem stepsE_fin : ∀ {l : List COp} {st : St} {es : List Eff} {p : St × List Eff}, stepsE att (runW vf att ext) l st es = some p → ∃ k, stepsE att (run vf att ext k) l st es = some p
  | [], _, _, _, hr => ⟨0, hr⟩
  | o :: l, st, es, p, hr => by
    obtain ⟨q, h1, h2⟩ := obind_eq hr
    obtain ⟨k1, h3⟩ := step1_fin h1
    obtain ⟨k2, h4⟩ := stepsE_fin h2
    exact ⟨max k1 k2, obind_mk (step1_mono (run_mono (Nat.le_max_left k1 k2)) h3) (stepsE_mono (run_mono (Nat.le_max_right k1 k2)) h4)⟩
theorem execK_mono {k k' : Nat} (h : k ≤ k') {vc : VC} {st : St} {r : Out × St} (hr : exec att (run vf att ext k) (loopI att (run vf att ext k) k) vc st = some r) : exec att (run vf att ext k') (loopI att (run vf att ext k') k') vc st = some r :=
  exec_mono (run_mono h) (loopK_mono h) hr
theorem exec_fin : ∀ {vc : VC} {st : St} {r : Out × St}, exec att (runW vf att ext) (loopW vf att ext) vc st = some r → ∃ k, exec att (run vf att ext k) (loopI att (run vf att ext k) k) vc st = some r
  | .skip, _, _, hr => ⟨0, hr⟩
  | .reg ops w, st, r, hr => by
    obtain ⟨s, h1, h2⟩ := obind_eq (show obind (steps att (runW vf att ext) ops st) (fun st' => endReg w st.nx st') = some r from hr)
    obtain ⟨k, h3⟩ := steps_fin h1
    exact ⟨k, obind_mk (x := steps att (run vf att ext k) ops st) h3 h2⟩
  | .regd ops w ps, st, r, hr => by
    obtain ⟨s, h1, h2⟩ := obind_eq (show obind (stepsE att (runW vf att ext) ops st []) (fun r => need (pairsOk r.2 ps) (endReg w st.nx r.1)) = some r from hr)
    obtain ⟨k, h3⟩ := stepsE_fin h1
    exact ⟨k, obind_mk (x := stepsE att (run vf att ext k) ops st []) h3 h2⟩
  | .seq a b, st, r, hr => by
    obtain ⟨⟨o, s⟩, h1, h2⟩ := obind_eq (show obind (exec att (runW vf att ext) (loopW vf att ext) a st) (fun r => thenDo (fun st => exec att (runW vf att ext) (loopW vf att ext) b st) r.1 r.2) = some r from hr)
    obtain ⟨k1, h3⟩ := exec_fin h1
    cases o with
    | normal =>
      obtain ⟨k2, h4⟩ := exec_fin (show exec att (runW vf att ext) (loopW vf att ext) b s = some r from h2)
      exact ⟨max k1 k2, obind_mk (x := exec att (run vf att ext _) (loopI att (run vf att ext _) _) a st) (execK_mono (Nat.le_max_left k1 k2) h3) (execK_mono (Nat.le_max_right k1 k2) h4)⟩
    | exit i => exact ⟨k1, obind_mk (x := exec att (run vf att ext _) (loopI att (run vf att ext _) _) a st) h3 h2⟩
    | ret => exact ⟨k1, obind_mk (x := exec att (run vf att ext _) (loopI att (run vf att ext _) _) a st) h3 h2⟩
  | .cond x a b, st, r, hr => by
    obtain ⟨t, h1, h2⟩ := obind_eq (show obind (boolOf (x.ev st.fr)) (fun t => bcond t (fun _ => exec att (runW vf att ext) (loopW vf att ext) a st) (fun _ => exec att (runW vf att ext) (loopW vf att ext) b st)) = some r from hr)
    cases t with
    | true =>
      obtain ⟨k, h3⟩ := exec_fin (show exec att (runW vf att ext) (loopW vf att ext) a st = some r from h2)
      exact ⟨k, obind_mk (x := boolOf (x.ev st.fr)) h1 h3⟩
    | false =>
      obtain ⟨k, h3⟩ := exec_fin (show exec att (runW vf att ext) (loopW vf att ext) b st = some r from h2)
      exact ⟨k, obind_mk (x := boolOf (x.ev st.fr)) h1 h3⟩
  | .block id a, st, r, hr => by
    obtain ⟨s, h1, h2⟩ := obind_eq (show obind (exec att (runW vf att ext) (loopW vf att ext) a st) (fun r => blockOut id r.1 r.2) = some r from hr)
    obtain ⟨k, h3⟩ := exec_fin h1
    exact ⟨k, obind_mk (x := exec att (run vf att ext _) (loopI att (run vf att ext _) _) a st) h3 h2⟩
  | .loop keep a, st, r, hr => loopW_out (show loopW vf att ext keep a (norm keep st) = some r from hr)
  | .exit id, _, _, hr => ⟨0, hr⟩
  | .ret, _, _, hr => ⟨0, hr⟩

/-- A CALL: what its code does, it does. -/
theorem runW_fn {f : Nat} {fn : VFn} {args : List AV} {ob : Objs} {r : AV × Objs} (he : ext f = none) (hv : vf f = some fn) (h : runFn att (runW vf att ext) (loopW vf att ext) (att f).ro fn args ob = some r) : runW vf att ext f args ob = some r := by
  obtain ⟨p, h1, h2⟩ := obind_eq h
  obtain ⟨k, h3⟩ := exec_fin h1
  refine runW_mk (k := k + 1) ?_
  unfold run
  rw [he]
  dsimp only
  rw [hv]
  exact obind_mk h3 h2
theorem runW_ext {f : Nat} {e : List AV → Objs → Option (AV × Objs)} {args : List AV} {ob : Objs} {r : AV × Objs} (he : ext f = some e) (h : e args ob = some r) : runW vf att ext f args ob = some r := by
  refine runW_mk (k := 1) ?_
  unfold run
  rw [he]; exact h
/-- A LOOP: one round, and the rest. -/
theorem loopW_next {keep : List Nat} {c : VC} {st s1 : St} {r : Out × St} (h : exec att (runW vf att ext) (loopW vf att ext) c st = some (.normal, s1)) (h2 : loopW vf att ext keep c (norm keep s1) = some r) : loopW vf att ext keep c st = some r := by
  obtain ⟨k1, h3⟩ := exec_fin h
  obtain ⟨k2, h4⟩ := loopW_out h2
  refine loopW_mk (k := max k1 k2 + 1) ?_
  refine loopI_mono (run_mono (Nat.le_succ (max k1 k2))) (Nat.le_refl (max k1 k2 + 1)) _ _ _ _ ?_
  exact obind_mk (x := exec att (run vf att ext _) (loopI att (run vf att ext _) _) c st) (execK_mono (Nat.le_max_left k1 k2) h3) (loopK_mono (Nat.le_max_right k1 k2) _ _ _ _ h4)
theorem loopW_out1 {keep : List Nat} {c : VC} {st : St} {r : Out × St} (h : exec att (runW vf att ext) (loopW vf att ext) c st = some r) (hr : r.1 ≠ .normal) : loopW vf att ext keep c st = some r := by
  obtain ⟨k1, h3⟩ := exec_fin h
  refine loopW_mk (k := k1 + 1) ?_
  refine loopI_mono (run_mono (Nat.le_succ k1)) (Nat.le_refl (k1 + 1)) _ _ _ _ ?_
  refine obind_mk (x := exec att (run vf att ext _) (loopI att (run vf att ext _) _) c st) h3 ?_
  obtain ⟨o, s⟩ := r
  cases o with
  | normal => exact absurd rfl hr
  | _ => rfl

theorem runW_ok {gl : GlT} {P : Program} (hm : P.follows .mixedOrders = true) (hvf : ∀ f fn, vf f = some fn → compFn gl P f = some fn) (hen : ∀ f fn, vf f = some fn → Enters P f)
    (hext : ∀ f e, ext f = some e → ∀ args ob r, e args ob = some r → Enters P f ∧ CallOK gl P (att f).ro f args ob r) : Callee gl P att (runW vf att ext) := fun f args ob r h => by
  obtain ⟨k, h'⟩ := runW_out h
  exact run_ok hm hvf hen hext k f args ob r h'
end
end Go.V

set_option linter.unusedVariables false
namespace Go.V

/-- what a function does with a slice told apart from nil, and with nil, it does with the slice as data -/
theorem CallOK.slice {gl : GlT} {P : Program} {ro : Bool} {f sz : Nat} {xs : List Data} {ob : Objs} {r : AV × Objs} (h1 : xs = [] → CallOK gl P ro f [.nn true sz xs] ob r) (h2 : CallOK gl P ro f [.nn false sz xs] ob r) : CallOK gl P ro f [.d (.sl sz xs)] ob r := by
  intro w g vals hg ha hn hgl
  obtain ⟨v, vs, rfl, hv, rfl⟩ := ha
  have hv' := hv
  obtain ⟨A, cap, e, hle, he⟩ := hv'
  cases A with
  | none =>
    have hx : xs = [] := Classical.byContradiction fun hne => by
      obtain ⟨b, off, hA, _⟩ := he hne
      cases hA
    exact h1 hx w g [v] hg ⟨v, [], rfl, ⟨⟨none, _, _, e, rfl⟩, hv⟩, rfl⟩ (fun o ho => by cases ho) hgl
  | some a =>
    exact h2 w g [v] hg ⟨v, [], rfl, ⟨⟨some a, _, _, e, rfl⟩, hv⟩, rfl⟩ (fun o ho => by cases ho) hgl
end Go.V

namespace Go.V
universe u
theorem nr {α : Sort u} {a b : α} (h : a = b) : a = b := h
section
variable (att : Nat → Attr) (call : CallT) (L : LoopT)
@[congr] theorem c_obind {α β : Type} {x y : Option α} (f : α → Option β) (h : x = y) : obind x f = obind y f := by rw [h]
@[congr] theorem c_bcond {α : Type} {b c : Bool} (x y : Unit → α) (h : b = c) : bcond b x y = bcond c x y := by rw [h]
@[congr] theorem c_exec (c : VC) (st : St) : exec att call L c st = exec att call L c st := rfl
@[congr] theorem c_thenDo (f : St → Option (Out × St)) (o : Out) (st : St) : thenDo f o st = thenDo f o st := rfl
@[congr] theorem c_steps (l : List COp) (st : St) : steps att call l st = steps att call l st := rfl
@[congr] theorem c_stepsE (l : List COp) (st : St) (es : List Eff) : stepsE att call l st es = stepsE att call l st es := rfl
@[congr] theorem c_need {α : Type} {b c : Bool} (x : Option α) (h : b = c) : need b x = need c x := by rw [h]
@[go_sem] theorem e_obs {α β : Type} (a : α) (f : α → Option β) : obind (some a) f = f a := nr rfl
@[go_sem] theorem e_obn {α β : Type} (f : α → Option β) : obind none f = none := nr rfl
@[go_sem] theorem e_oba {α β γ : Type} (x : Option α) (f : α → Option β) (g : β → Option γ) : obind (obind x f) g = obind x fun a => obind (f a) g := by cases x <;> rfl
@[go_sem] theorem e_bt {α : Type} (x y : Unit → α) : bcond true x y = x () := nr rfl
@[go_sem] theorem e_bf {α : Type} (x y : Unit → α) : bcond false x y = y () := nr rfl
@[go_sem] theorem e_obb {α β : Type} (b : Bool) (x y : Unit → Option α) (f : α → Option β) : obind (bcond b x y) f = bcond b (fun _ => obind (x ()) f) (fun _ => obind (y ()) f) := by cases b <;> rfl
@[go_sem] theorem e_nt {α : Type} (x : Option α) : need true x = x := nr rfl
@[go_sem] theorem e_nf {α : Type} (x : Option α) : need false x = none := nr rfl
@[go_sem] theorem e_skip (st : St) : exec att call L .skip st = some (.normal, st) := nr rfl
@[go_sem] theorem e_reg (ops : List COp) (w : Nat) (st : St) : exec att call L (.reg ops w) st = obind (steps att call ops st) fun st' => endReg w st.nx st' := nr rfl
@[go_sem] theorem e_regd (ops : List COp) (w : Nat) (ps : List (Nat × Nat)) (st : St) : exec att call L (.regd ops w ps) st = obind (stepsE att call ops st []) fun r => need (pairsOk r.2 ps) (endReg w st.nx r.1) := nr rfl
@[go_sem] theorem e_seq (a b : VC) (st : St) : exec att call L (.seq a b) st = obind (exec att call L a st) fun r => thenDo (fun st => exec att call L b st) r.1 r.2 := nr rfl
/-- a branch that waits for its condition -/
def cex (t : Bool) (att : Nat → Attr) (call : CallT) (L : LoopT) (a b : VC) (st : St) : Option (Out × St) := bcond t (fun _ => exec att call L a st) (fun _ => exec att call L b st)
@[go_sem] theorem cex_t (a b : VC) (st : St) : cex true att call L a b st = exec att call L a st := nr rfl
@[go_sem] theorem cex_f (a b : VC) (st : St) : cex false att call L a b st = exec att call L b st := nr rfl
@[go_sem] theorem e_cond (c : Opd) (a b : VC) (st : St) : exec att call L (.cond c a b) st = obind (boolOf (c.ev st.fr)) fun t => cex t att call L a b st := nr rfl
@[go_sem] theorem e_block (id : Nat) (c : VC) (st : St) : exec att call L (.block id c) st = obind (exec att call L c st) fun r => blockOut id r.1 r.2 := nr rfl
@[go_sem] theorem e_loop (keep : List Nat) (c : VC) (st : St) : exec att call L (.loop keep c) st = L keep c (norm keep st) := nr rfl
@[go_sem] theorem e_exit (id : Nat) (st : St) : exec att call L (.exit id) st = some (.exit id, st) := nr rfl
@[go_sem] theorem e_ret (st : St) : exec att call L .ret st = some (.ret, st) := nr rfl
@[go_sem] theorem e_end (w nx : Nat) (fr : Fr) (ob : Objs) (n m : Nat) (ro : Bool) : endReg w nx ⟨fr, ob, n, m, ro⟩ = some (.normal, ⟨fr, ob, nx + w, m, ro⟩) := nr rfl
@[go_sem] theorem e_then_n (f : St → Option (Out × St)) (st : St) : thenDo f .normal st = f st := nr rfl
@[go_sem] theorem e_then_e (f : St → Option (Out × St)) (i : Nat) (st : St) : thenDo f (.exit i) st = some (.exit i, st) := nr rfl
@[go_sem] theorem e_then_r (f : St → Option (Out × St)) (st : St) : thenDo f .ret st = some (.ret, st) := nr rfl
@[go_sem] theorem e_blk_n (id : Nat) (st : St) : blockOut id .normal st = some (.normal, st) := nr rfl
@[go_sem] theorem e_blk_r (id : Nat) (st : St) : blockOut id .ret st = some (.ret, st) := nr rfl
@[go_sem] theorem e_blk_e (id : Nat) (i : Nat) (st : St) : blockOut id (.exit i) st = bcond (Nat.beq i id) (fun _ => some (.normal, st)) (fun _ => some (.exit i, st)) := by
  simp only [blockOut, bcond]
@[go_sem] theorem e_steps_nil (st : St) : steps att call [] st = some st := nr rfl
@[go_sem] theorem e_steps_cons (d : Option Nat) (op : VOp) (b : Nat) (l : List COp) (fr : Fr) (ob : Objs) (nx m : Nat) (ro : Bool) :
    steps att call (⟨d, op, none, b⟩ :: l) ⟨fr, ob, nx, m, ro⟩ = obind (stepOp att call (nx + b) fr ob op) fun r => obind (putR d ⟨fr, ob, nx, m, ro⟩ r) fun r => steps att call l r.1 := by
  simp only [steps, step1, runOp]
  cases stepOp att call (nx + b) fr ob op <;> rfl
def gex (g : Bool) (att : Nat → Attr) (call : CallT) (d : Option Nat) (op : VOp) (b : Nat) (l : List COp) (st : St) : Option St :=
  bcond g (fun _ => obind (stepOp att call (st.nx + b) st.fr st.ob op) fun r => obind (putR d st r) fun r => steps att call l r.1) (fun _ => steps att call l ⟨putDst d (.tup []) st.fr, st.ob, st.nx, st.m, st.ro⟩)
@[go_sem] theorem gex_t (d : Option Nat) (op : VOp) (b : Nat) (l : List COp) (fr : Fr) (ob : Objs) (nx m : Nat) (ro : Bool) : gex true att call d op b l ⟨fr, ob, nx, m, ro⟩ =
    obind (stepOp att call (nx + b) fr ob op) fun r => obind (putR d ⟨fr, ob, nx, m, ro⟩ r) fun r => steps att call l r.1 := nr rfl
@[go_sem] theorem gex_f (d : Option Nat) (op : VOp) (b : Nat) (l : List COp) (fr : Fr) (ob : Objs) (nx m : Nat) (ro : Bool) : gex false att call d op b l ⟨fr, ob, nx, m, ro⟩ = steps att call l ⟨putDst d (.tup []) fr, ob, nx, m, ro⟩ := nr rfl
@[go_sem] theorem e_steps_guard (d : Option Nat) (op : VOp) (b t : Nat) (want : Bool) (l : List COp) (fr : Fr) (ob : Objs) (nx m : Nat) (ro : Bool) :
    steps att call (⟨d, op, some (t, want), b⟩ :: l) ⟨fr, ob, nx, m, ro⟩ = obind (guardOf want (fget fr t)) fun g => gex g att call d op b l ⟨fr, ob, nx, m, ro⟩ := by
  simp only [steps, step1, runOp]
  cases guardOf want (fget fr t) with
  | none => rfl
  | some g => cases g with
    | false => rfl
    | true =>
      show obind (obind (stepOp att call (nx + b) fr ob op) _) _ = obind (stepOp att call (nx + b) fr ob op) _
      cases stepOp att call (nx + b) fr ob op <;> rfl
@[go_sem] theorem e_stepsE_nil (st : St) (es : List Eff) : stepsE att call [] st es = some (st, es) := nr rfl
@[go_sem] theorem e_stepsE_cons (d : Option Nat) (op : VOp) (b : Nat) (l : List COp) (fr : Fr) (ob : Objs) (nx m : Nat) (ro : Bool) (es : List Eff) :
    stepsE att call (⟨d, op, none, b⟩ :: l) ⟨fr, ob, nx, m, ro⟩ es = obind (stepOp att call (nx + b) fr ob op) fun r => obind (putR d ⟨fr, ob, nx, m, ro⟩ r) fun r => stepsE att call l r.1 (es ++ [r.2]) := by
  simp only [stepsE, step1, runOp]
  cases stepOp att call (nx + b) fr ob op <;> rfl
def gexE (g : Bool) (att : Nat → Attr) (call : CallT) (d : Option Nat) (op : VOp) (b : Nat) (l : List COp) (st : St) (es : List Eff) : Option (St × List Eff) :=
  bcond g (fun _ => obind (stepOp att call (st.nx + b) st.fr st.ob op) fun r => obind (putR d st r) fun r => stepsE att call l r.1 (es ++ [r.2])) (fun _ => stepsE att call l ⟨putDst d (.tup []) st.fr, st.ob, st.nx, st.m, st.ro⟩ (es ++ [⟨[], []⟩]))
@[go_sem] theorem gexE_t (d : Option Nat) (op : VOp) (b : Nat) (l : List COp) (fr : Fr) (ob : Objs) (nx m : Nat) (ro : Bool) (es : List Eff) : gexE true att call d op b l ⟨fr, ob, nx, m, ro⟩ es =
    obind (stepOp att call (nx + b) fr ob op) fun r => obind (putR d ⟨fr, ob, nx, m, ro⟩ r) fun r => stepsE att call l r.1 (es ++ [r.2]) := nr rfl
@[go_sem] theorem gexE_f (d : Option Nat) (op : VOp) (b : Nat) (l : List COp) (fr : Fr) (ob : Objs) (nx m : Nat) (ro : Bool) (es : List Eff) : gexE false att call d op b l ⟨fr, ob, nx, m, ro⟩ es = stepsE att call l ⟨putDst d (.tup []) fr, ob, nx, m, ro⟩ (es ++ [⟨[], []⟩]) := nr rfl
@[go_sem] theorem e_stepsE_guard (d : Option Nat) (op : VOp) (b t : Nat) (want : Bool) (l : List COp) (fr : Fr) (ob : Objs) (nx m : Nat) (ro : Bool) (es : List Eff) :
    stepsE att call (⟨d, op, some (t, want), b⟩ :: l) ⟨fr, ob, nx, m, ro⟩ es = obind (guardOf want (fget fr t)) fun g => gexE g att call d op b l ⟨fr, ob, nx, m, ro⟩ es := by
  simp only [stepsE, step1, runOp]
  cases guardOf want (fget fr t) with
  | none => rfl
  | some g => cases g with
    | false => rfl
    | true =>
      show obind (obind (stepOp att call (nx + b) fr ob op) _) _ = obind (stepOp att call (nx + b) fr ob op) _
      cases stepOp att call (nx + b) fr ob op <;> rfl
@[go_sem] theorem e_put (d : Option Nat) (fr : Fr) (ob : Objs) (nx m : Nat) (v : AV) (upd : Objs) (rd : List Nat) :
    putR d ⟨fr, ob, nx, m, false⟩ ⟨v, upd, rd⟩ = some (⟨putDst d v fr, upd ++ ob, nx, m, false⟩, ⟨rd, keysOf upd⟩) := rfl
@[go_sem] theorem e_putro (d : Option Nat) (fr : Fr) (ob : Objs) (nx m : Nat) (v : AV) (upd : Objs) (rd : List Nat) :
    putR d ⟨fr, ob, nx, m, true⟩ ⟨v, upd, rd⟩ = need (!writesImport m upd) (some (⟨putDst d v fr, upd ++ ob, nx, m, true⟩, ⟨rd, keysOf upd⟩)) := rfl
@[go_sem] theorem e_dst_s (t : Nat) (v : AV) (fr : Fr) : putDst (some t) v fr = (t, v) :: fr := nr rfl
@[go_sem] theorem e_dst_n (v : AV) (fr : Fr) : putDst none v fr = fr := nr rfl
@[go_sem] theorem e_fget (k : Nat) (v : AV) (l : Fr) (t : Nat) : fget ((k, v) :: l) t = bcond (Nat.beq k t) (fun _ => v) (fun _ => fget l t) := by
  simp only [fget, bcond]
@[go_sem] theorem e_fget_nil (t : Nat) : fget [] t = .any := nr rfl
@[go_sem] theorem e_oget (k : Nat) (v : Option AObj) (l : Objs) (o : Nat) : oget ((k, v) :: l) o = bcond (Nat.beq k o) (fun _ => v) (fun _ => oget l o) := by
  simp only [oget, bcond]
@[go_sem] theorem e_oget_nil (o : Nat) : oget [] o = none := nr rfl
@[go_sem] theorem e_beq (a b : Nat) : Nat.beq a b = (a == b) := by
  cases h : Nat.beq a b
  · have := Nat.ne_of_beq_eq_false h; simp [this]
  · have := Nat.eq_of_beq_eq_true h; simp [this]
@[go_sem] theorem e_ble (a b : Nat) : Nat.ble a b = decide (a ≤ b) := by
  cases h : Nat.ble a b
  · symm; simp; exact Nat.lt_of_not_le fun hh => by have := Nat.ble_eq_true_of_le hh; simp [this] at h
  · symm; simp; exact Nat.le_of_ble_eq_true h
@[go_sem] theorem e_blt (a b : Nat) : Nat.blt a b = decide (a < b) := e_ble (a + 1) b
@[go_sem] theorem e_evt (fr : Fr) (n : Nat) : (Opd.t n).ev fr = fget fr n := nr rfl
@[go_sem] theorem e_evc (fr : Fr) (v : AV) : (Opd.c v).ev fr = v := nr rfl
@[go_sem] theorem e_fin_n (fn : VFn) (st : St) : finish fn .normal st = obind (allSome (resOf st) fn.res) fun vs => fin1 st vs := nr rfl
@[go_sem] theorem e_fin_r (fn : VFn) (st : St) : finish fn .ret st = obind (allSome (resOf st) fn.res) fun vs => fin1 st vs := nr rfl
/-! ### operations -/
variable (base : Nat) (fr : Fr) (ob : Objs)
@[go_sem] theorem o_mv (x : Opd) : stepOp att call base fr ob (.mv x) = some ⟨x.ev fr, [], []⟩ := nr rfl
@[go_sem] theorem o_pick (c a b : Opd) : stepOp att call base fr ob (.pick c a b) = pickR (c.ev fr) (a.ev fr) (b.ev fr) := nr rfl
@[go_sem] theorem o_alloc (z : List AV) : stepOp att call base fr ob (.alloc z) = some ⟨.ptr base 0, [(base, some (.box z))], []⟩ := nr rfl
@[go_sem] theorem o_box (x : Opd) : stepOp att call base fr ob (.box x) = need (x.ev fr).single (some ⟨.ptr base 0, [(base, some (.box (x.ev fr).cells))], []⟩) := nr rfl
@[go_sem] theorem o_build (z : List AV) (ps : List (Nat × Nat × Opd)) : stepOp att call base fr ob (.build z ps) = obind (fillParts fr z ps) fun cs => some ⟨mkAgg cs, [], []⟩ := nr rfl
@[go_sem] theorem o_bslice (sz : Nat) (ps : List Opd) : stepOp att call base fr ob (.bslice sz ps) = bsliceR sz base (evL fr ps) ob := nr rfl
@[go_sem] theorem o_load (g : Bool) (n : Nat) (x : Opd) : stepOp att call base fr ob (.load g n x) = loadR g n ob (x.ev fr) := nr rfl
@[go_sem] theorem o_store (n : Nat) (a x : Opd) : stepOp att call base fr ob (.store n a x) = storeR n ob (a.ev fr) (x.ev fr) := nr rfl
@[go_sem] theorem o_nilchk (x : Opd) : stepOp att call base fr ob (.nilchk x) = nilchkR (x.ev fr) := nr rfl
@[go_sem] theorem o_bin (op : BinOp) (x y : Opd) : stepOp att call base fr ob (.bin op x y) = binNR op (x.ev fr) (y.ev fr) := nr rfl
@[go_sem] theorem o_binb (op : BinOp) (x y : Opd) : stepOp att call base fr ob (.binb op x y) = binR op (x.ev fr) (y.ev fr) := nr rfl
@[go_sem] theorem o_eqd (g : Bool) (kt : KT) (x y : Opd) : stepOp att call base fr ob (.eqd g kt x y) = eqdR g kt (x.ev fr) (y.ev fr) := nr rfl
@[go_sem] theorem o_isnil (k : Nat) (g : Bool) (x : Opd) : stepOp att call base fr ob (.isnil k g x) = isnilR g k (x.ev fr) := nr rfl
@[go_sem] theorem o_strid (x : Opd) : stepOp att call base fr ob (.strid x) = stridR (x.ev fr) := nr rfl
@[go_sem] theorem o_un (op : UnOp) (x : Opd) : stepOp att call base fr ob (.un op x) = unR op (x.ev fr) := nr rfl
@[go_sem] theorem o_conv (k : IntKind) (x : Opd) : stepOp att call base fr ob (.conv k x) = convR k (x.ev fr) := nr rfl
@[go_sem] theorem o_mkf (f : Nat) (cap : List Opd) : stepOp att call base fr ob (.mkf f cap) = some ⟨.clos f (evL fr cap), [], []⟩ := nr rfl
@[go_sem] theorem o_mkmap : stepOp att call base fr ob .mkmap = some ⟨.mref base, [(base, some (.map []))], []⟩ := nr rfl
@[go_sem] theorem o_mkslice (sz b : Nat) (z : Data) (n c : Opd) : stepOp att call base fr ob (.mkslice sz b z n c) = mksliceR sz b base z (n.ev fr) (c.ev fr) := nr rfl
@[go_sem] theorem o_slice (sz : Nat) (x : Opd) (lo hi mx : Option Opd) : stepOp att call base fr ob (.slice sz x lo hi mx) = sliceR sz ob (optInt (evO fr lo)) (optInt (evO fr hi)) (optInt (evO fr mx)) (x.ev fr) := nr rfl
@[go_sem] theorem o_sslice (x : Opd) (lo hi : Option Opd) : stepOp att call base fr ob (.sslice x lo hi) = ssliceR (optInt (evO fr lo)) (optInt (evO fr hi)) (x.ev fr) := nr rfl
@[go_sem] theorem o_faddr (off : Nat) (x : Opd) : stepOp att call base fr ob (.faddr off x) = faddrR off ob (x.ev fr) := nr rfl
@[go_sem] theorem o_fld (g : Bool) (off n : Nat) (x : Opd) : stepOp att call base fr ob (.fld g off n x) = fldR g off n (aggCells (x.ev fr)) := nr rfl
@[go_sem] theorem o_iaddr (sz : Nat) (x i : Opd) : stepOp att call base fr ob (.iaddr sz x i) = iaddrR sz ob (x.ev fr) (i.ev fr) := nr rfl
@[go_sem] theorem o_sidx (x i : Opd) : stepOp att call base fr ob (.sidx x i) = sidxR (x.ev fr) (i.ev fr) := nr rfl
@[go_sem] theorem o_look (z : Data) (ok : Bool) (kt : KT) (m k : Opd) : stepOp att call base fr ob (.look z ok kt m k) = lookR z ok kt ob (m.ev fr) (k.ev fr) := nr rfl
@[go_sem] theorem o_mupd (kt : KT) (m k x : Opd) : stepOp att call base fr ob (.mupd kt m k x) = mupdR kt ob (m.ev fr) (k.ev fr) ((x.ev fr).toData ob) (x.ev fr) := nr rfl
@[go_sem] theorem o_ext (x : Opd) (i : Nat) : stepOp att call base fr ob (.ext x i) = extR (x.ev fr) i := nr rfl
@[go_sem] theorem o_call (f : Nat) (args : List Opd) : stepOp att call base fr ob (.call f args) = doCall (att f) call base f (evL fr args) ob := nr rfl
@[go_sem] theorem o_callv (x : Opd) (args : List Opd) : stepOp att call base fr ob (.callv x args) = callvR att call base (evL fr args) ob (x.ev fr) := nr rfl
@[go_sem] theorem o_app (sz b : Nat) (x y : Opd) : stepOp att call base fr ob (.app sz b x y) = appR sz b base ob (x.ev fr) (y.ev fr).ownNames ((y.ev fr).toD ob) := nr rfl
@[go_sem] theorem o_len (k : Nat) (x : Opd) : stepOp att call base fr ob (.len k x) = lenR ob k (x.ev fr) := nr rfl
@[go_sem] theorem o_mx (x y : Opd) : stepOp att call base fr ob (.mx x y) = maxR (x.ev fr) (y.ev fr) := nr rfl
@[go_sem] theorem o_mn (x y : Opd) : stepOp att call base fr ob (.mn x y) = minR (x.ev fr) (y.ev fr) := nr rfl
/-! ### the operations' first cases -/
@[go_sem] theorem r_boolOf (b : Bool) : boolOf (.d (.bool b)) = some b := rfl
@[go_sem] theorem r_guardu (w : Bool) : guardOf w (.tup []) = some false := rfl
@[go_sem] theorem r_guard (w b : Bool) : guardOf w (.d (.bool b)) = some (b == w) := rfl
@[go_sem] theorem r_pick (t : Bool) (a b : AV) : pickR (.d (.bool t)) a b = some ⟨bcond t (fun _ => a) (fun _ => b), [], []⟩ := rfl
@[go_sem] theorem r_sg_d (x : Data) : (AV.d x).single = true := rfl
@[go_sem] theorem r_sg_a (x : List AV) : (AV.agg x).single = true := rfl
@[go_sem] theorem r_sg_o (o : Nat) : (AV.own o).single = true := rfl
@[go_sem] theorem r_sg_n (o : Nat) : (AV.nils o).single = true := rfl
@[go_sem] theorem r_sg_p (o f : Nat) : (AV.ptr o f).single = true := rfl
@[go_sem] theorem r_sg_m (o : Nat) : (AV.mref o).single = true := rfl
@[go_sem] theorem r_sg_c (o : Nat) (l : List AV) : (AV.clos o l).single = true := rfl
@[go_sem] theorem r_cl_ag (cs : List Data) : (AV.d (.agg cs)).cells = dcells cs := rfl
@[go_sem] theorem r_cl_a (cs : List AV) : (AV.agg cs).cells = cs := rfl
@[go_sem] theorem r_cl_i (k : IntKind) (n : Int) : (AV.d (.int k n)).cells = [.d (.int k n)] := rfl
@[go_sem] theorem r_cl_b (n : Bool) : (AV.d (.bool n)).cells = [.d (.bool n)] := rfl
@[go_sem] theorem r_cl_s (n : List UInt8) : (AV.d (.str n)).cells = [.d (.str n)] := rfl
@[go_sem] theorem r_cl_sl (n : Nat) (l : List Data) : (AV.d (.sl n l)).cells = [.d (.sl n l)] := rfl
@[go_sem] theorem r_cl_o (n : Nat) : (AV.own n).cells = [.own n] := rfl
@[go_sem] theorem r_cl_n (n : Nat) : (AV.nils n).cells = [.nils n] := rfl
@[go_sem] theorem r_cl_p (n f : Nat) : (AV.ptr n f).cells = [.ptr n f] := rfl
@[go_sem] theorem r_cl_m (n : Nat) : (AV.mref n).cells = [.mref n] := rfl
@[go_sem] theorem r_dc_n : dcells [] = [] := rfl
@[go_sem] theorem r_dc_c (x : Data) (l : List Data) : dcells (x :: l) = .d x :: dcells l := rfl
@[go_sem] theorem r_dcl_ag (cs : List Data) : (Data.agg cs).cells = cs := rfl
@[go_sem] theorem r_dcl_i (k : IntKind) (n : Int) : (Data.int k n).cells = [.int k n] := rfl
@[go_sem] theorem r_dcl_b (n : Bool) : (Data.bool n).cells = [.bool n] := rfl
@[go_sem] theorem r_dcl_s (n : List UInt8) : (Data.str n).cells = [.str n] := rfl
@[go_sem] theorem r_dcl_sl (n : Nat) (l : List Data) : (Data.sl n l).cells = [.sl n l] := rfl
@[go_sem] theorem r_load_p (g : Bool) (n o off : Nat) : loadR g n ob (.ptr o off) = loadBox g n o off (oget ob o) := nr rfl
@[go_sem] theorem r_load_e (g : Bool) (n : Nat) (cs : List Data) : loadR g n ob (.eptr cs) = obind (V.loadCells g n (dcells cs)) fun v => some ⟨v, [], []⟩ := nr rfl
@[go_sem] theorem r_load_o (g : Bool) (n o i off : Nat) : loadR g n ob (.optr o i off) = loadArr g n o i off (oget ob o) := nr rfl
@[go_sem] theorem r_loadb (g : Bool) (n o off : Nat) (cs : List AV) : loadBox g n o off (some (.box cs)) = obind (V.loadCells g n (cs.drop off)) fun v => some ⟨v, [], [o]⟩ := nr rfl
@[go_sem] theorem r_loada (g : Bool) (n o i off sz : Nat) (xs : List Data) (u : Bool) : loadArr g n o i off (some (.arr sz xs u)) = loadElem g n o off xs[i]? := nr rfl
@[go_sem] theorem r_loadl (g : Bool) (n o off : Nat) (x : Data) : loadElem g n o off (some x) = obind (V.loadCells g n (dcells (x.cells.drop off))) fun v => some ⟨v, [], [o]⟩ := nr rfl
@[go_sem] theorem r_lc_f (n : Nat) (v : AV) (l : List AV) : V.loadCells false n (v :: l) = some v := rfl
@[go_sem] theorem r_lc_t (n : Nat) (l : List AV) : V.loadCells true n l = need (decide (n ≤ l.length)) (some (mkAgg (l.take n))) := rfl
@[go_sem] theorem r_mkAgg_n : mkAgg [] = .d (.agg []) := rfl
@[go_sem] theorem r_mkAgg (l : List AV) : mkAgg l = (match allD l with | some l => .d (.agg l) | none => .agg l) := rfl
@[go_sem] theorem r_allD_n : allD [] = some [] := rfl
@[go_sem] theorem r_allD_d (x : Data) (l : List AV) : allD (.d x :: l) = (allD l).map (x :: ·) := rfl
@[go_sem] theorem r_allD_o (o : Nat) (l : List AV) : allD (.own o :: l) = none := rfl
@[go_sem] theorem r_allD_ni (o : Nat) (l : List AV) : allD (.nils o :: l) = none := rfl
@[go_sem] theorem r_allD_p (o f : Nat) (l : List AV) : allD (.ptr o f :: l) = none := rfl
@[go_sem] theorem r_allD_m (o : Nat) (l : List AV) : allD (.mref o :: l) = none := rfl
@[go_sem] theorem r_fill_n (cs : List AV) : fillParts fr cs [] = some cs := rfl
@[go_sem] theorem r_fill_c (cs : List AV) (off n : Nat) (x : Opd) (l : List (Nat × Nat × Opd)) : fillParts fr cs ((off, n, x) :: l) = need ((x.ev fr).single && decide ((x.ev fr).cells.length = n ∧ off + n ≤ cs.length)) (fillParts fr (putCells cs off (x.ev fr).cells) l) := rfl
@[go_sem] theorem r_pc_n (cs : List AV) (off : Nat) : putCells cs off [] = cs := rfl
@[go_sem] theorem r_pc_c (cs : List AV) (off : Nat) (v : AV) (l : List AV) : putCells cs off (v :: l) = putCells (cs.set off v) (off + 1) l := rfl
@[go_sem] theorem r_evL_n : evL fr [] = [] := rfl
@[go_sem] theorem r_evL_c (x : Opd) (l : List Opd) : evL fr (x :: l) = x.ev fr :: evL fr l := rfl
@[go_sem] theorem r_evO_n : evO fr none = none := rfl
@[go_sem] theorem r_evO_c (x : Opd) : evO fr (some x) = some (x.ev fr) := rfl
@[go_sem] theorem r_optInt_n : optInt none = some none := rfl
@[go_sem] theorem r_optInt_c (k : IntKind) (n : Int) : optInt (some (.d (.int k n))) = need (decide (0 ≤ n)) (some (some n.toNat)) := rfl
@[go_sem] theorem r_st (n : Nat) (o off : Nat) (v : AV) : storeR n ob (.ptr o off) v = need (v.single && decide (v.cells.length = n)) (storeBox n o off v (oget ob o)) := nr rfl
@[go_sem] theorem r_sto (n : Nat) (o i off : Nat) (v : AV) : storeR n ob (.optr o i off) v = need (v.single && decide (v.cells.length = n)) (storeArr n o i off v ob (oget ob o)) := nr rfl
@[go_sem] theorem r_stb (n o off : Nat) (v : AV) (cs : List AV) : storeBox n o off v (some (.box cs)) = need (decide (off + n ≤ cs.length)) (some ⟨.any, [(o, some (.box (putCells cs off v.cells)))], [o]⟩) := nr rfl
@[go_sem] theorem r_bin (op : BinOp) (k : IntKind) (a : Int) (y : AV) : binNR op (.d (.int k a)) y = binR op (.d (.int k a)) y := by cases y <;> rfl
@[go_sem] theorem r_bins (op : BinOp) (a : List UInt8) (y : AV) : binNR op (.d (.str a)) y = binR op (.d (.str a)) y := by cases y <;> rfl
@[go_sem] theorem r_binR (op : BinOp) (a b : Data) : binR op (.d a) (.d b) = obind (binD op a b) fun x => some ⟨.d x, [], []⟩ := rfl
@[go_sem] theorem r_binD_ss (op : BinOp) (a b : List UInt8) : binD op (.str a) (.str b) = strBin a b op := rfl
@[go_sem] theorem r_binD_bb (op : BinOp) (a b : Bool) : binD op (.bool a) (.bool b) = boolBin a b op := rfl
@[go_sem] theorem r_add (k : IntKind) (a b : Int) : binD .add (.int k a) (.int k b) = some (.int k (k.wrap (a + b))) := by simp [binD, need, intBin]
@[go_sem] theorem r_sub (k : IntKind) (a b : Int) : binD .sub (.int k a) (.int k b) = some (.int k (k.wrap (a - b))) := by simp [binD, need, intBin]
@[go_sem] theorem r_mul (k : IntKind) (a b : Int) : binD .mul (.int k a) (.int k b) = some (.int k (k.wrap (a * b))) := by simp [binD, need, intBin]
@[go_sem] theorem r_quo (k : IntKind) (a b : Int) : binD .quo (.int k a) (.int k b) = need (!decide (b = 0)) (some (.int k (k.wrap (a.tdiv b)))) := by simp [binD, need, intBin]
@[go_sem] theorem r_rem (k : IntKind) (a b : Int) : binD .rem (.int k a) (.int k b) = need (!decide (b = 0)) (some (.int k (a.tmod b))) := by simp [binD, need, intBin]
@[go_sem] theorem r_eql (k : IntKind) (a b : Int) : binD .eql (.int k a) (.int k b) = some (.bool (decide (a = b))) := by simp [binD, need, intBin]
@[go_sem] theorem r_neq (k : IntKind) (a b : Int) : binD .neq (.int k a) (.int k b) = some (.bool (!decide (a = b))) := by simp [binD, need, intBin]
@[go_sem] theorem r_lss (k : IntKind) (a b : Int) : binD .lss (.int k a) (.int k b) = some (.bool (decide (a < b))) := by simp [binD, need, intBin]
@[go_sem] theorem r_leq (k : IntKind) (a b : Int) : binD .leq (.int k a) (.int k b) = some (.bool (decide (a ≤ b))) := by simp [binD, need, intBin]
@[go_sem] theorem r_gtr (k : IntKind) (a b : Int) : binD .gtr (.int k a) (.int k b) = some (.bool (decide (b < a))) := by simp [binD, need, intBin]
@[go_sem] theorem r_geq (k : IntKind) (a b : Int) : binD .geq (.int k a) (.int k b) = some (.bool (decide (b ≤ a))) := by simp [binD, need, intBin]
@[go_sem] theorem r_seql (a b : List UInt8) : strBin a b .eql = some (.bool (decide (a = b))) := rfl
@[go_sem] theorem r_sneq (a b : List UInt8) : strBin a b .neq = some (.bool (!decide (a = b))) := rfl
@[go_sem] theorem r_slss (a b : List UInt8) : strBin a b .lss = some (.bool (bytesLess a b)) := rfl
@[go_sem] theorem r_beql (a b : Bool) : boolBin a b .eql = some (.bool (a == b)) := rfl
@[go_sem] theorem r_bneq (a b : Bool) : boolBin a b .neq = some (.bool (!(a == b))) := rfl
@[go_sem] theorem r_not (b : Bool) : unR .not (.d (.bool b)) = some ⟨.d (.bool !b), [], []⟩ := rfl
@[go_sem] theorem r_neg (k : IntKind) (n : Int) : unR .neg (.d (.int k n)) = some ⟨.d (.int k (k.wrap (0 - n))), [], []⟩ := rfl
@[go_sem] theorem r_conv (k k' : IntKind) (n : Int) : convR k (.d (.int k' n)) = some ⟨.d (.int k (k.wrap n)), [], []⟩ := rfl
@[go_sem] theorem r_eqd (g : Bool) (kt : KT) (a b : Data) : eqdR g kt (.d a) (.d b) = need (kt.ok a) (obind (eqData a b) fun t => some ⟨.d (.bool (bcond g (fun _ => !t) (fun _ => t))), [], []⟩) := rfl
@[go_sem] theorem r_nil3n (g : Bool) (s : Nat) : isnilR g 3 (.nils s) = some ⟨.d (.bool !g), [], []⟩ := rfl
@[go_sem] theorem r_nil3d (g nb : Bool) (s : Nat) (xs : List V.Data) : isnilR g 3 (.nn nb s xs) = some ⟨.d (.bool (bcond g (fun _ => !nb) (fun _ => nb))), [], []⟩ := rfl
@[go_sem] theorem r_nil0n (g : Bool) : isnilR g 0 (.d .nptr) = some ⟨.d (.bool !g), [], []⟩ := rfl
@[go_sem] theorem r_nil0p (g : Bool) (o f : Nat) : isnilR g 0 (.ptr o f) = some ⟨.d (.bool g), [], []⟩ := rfl
@[go_sem] theorem r_faddr_p (off o p : Nat) : faddrR off ob (.ptr o p) = some ⟨.ptr o (p + off), [], []⟩ := rfl
@[go_sem] theorem r_faddr_e (off : Nat) (cs : List Data) : faddrR off ob (.eptr cs) = some ⟨.eptr (cs.drop off), [], []⟩ := rfl
@[go_sem] theorem r_faddr_g (off g p : Nat) : faddrR off ob (.gptr g p) = some ⟨.gptr g (p + off), [], []⟩ := rfl
@[go_sem] theorem r_faddr_o (off o i p : Nat) : faddrR off ob (.optr o i p) = faddrArr off o i p (oget ob o) := rfl
@[go_sem] theorem r_faddra (off o i p sz : Nat) (xs : List Data) (u : Bool) : faddrArr off o i p (some (.arr sz xs u)) = some ⟨.optr o i (p + off), [], [o]⟩ := rfl
@[go_sem] theorem r_fld (g : Bool) (off n : Nat) (cs : List AV) : fldR g off n (some cs) = obind (V.loadCells g n (cs.drop off)) fun v => some ⟨v, [], []⟩ := rfl
@[go_sem] theorem r_agc (cs : List Data) : aggCells (.d (.agg cs)) = some (dcells cs) := rfl
@[go_sem] theorem r_aga (cs : List AV) : aggCells (.agg cs) = some cs := rfl
@[go_sem] theorem r_iaddr_d (sz sz' : Nat) (xs : List Data) (k : IntKind) (n : Int) : iaddrR sz ob (.d (.sl sz' xs)) (.d (.int k n)) = need (Nat.beq sz sz' && decide (0 ≤ n)) (elemPtr xs[n.toNat]?) := rfl
@[go_sem] theorem r_iaddr_o (sz o : Nat) (k : IntKind) (n : Int) : iaddrR sz ob (.own o) (.d (.int k n)) = need (decide (0 ≤ n)) (iaddrOwn sz o n (oget ob o)) := rfl
@[go_sem] theorem r_iaddro (sz o : Nat) (n : Int) (sz' : Nat) (xs : List Data) (u : Bool) : iaddrOwn sz o n (some (.arr sz' xs u)) = need (Nat.beq sz sz' && decide (n.toNat < xs.length)) (some ⟨.optr o n.toNat 0, [], [o]⟩) := rfl
@[go_sem] theorem r_elem (x : Data) : elemPtr (some x) = some ⟨.eptr x.cells, [], []⟩ := rfl
@[go_sem] theorem r_sidx (s : List UInt8) (k : IntKind) (n : Int) : sidxR (.d (.str s)) (.d (.int k n)) = need (decide (0 ≤ n)) (byteAt s[n.toNat]?) := rfl
@[go_sem] theorem r_byte (b : UInt8) : byteAt (some b) = some ⟨.d (.int .u8 b.toNat), [], []⟩ := rfl
@[go_sem] theorem r_ext (vs : List AV) (i : Nat) : extR (.tup vs) i = obind vs[i]? fun v => some ⟨v, [], []⟩ := rfl
@[go_sem] theorem r_len_s (s : List UInt8) : lenR ob 0 (.d (.str s)) = some ⟨.d (.int .i64 s.length), [], []⟩ := rfl
@[go_sem] theorem r_len_d (sz : Nat) (xs : List Data) : lenR ob 1 (.d (.sl sz xs)) = some ⟨.d (.int .i64 xs.length), [], []⟩ := rfl
@[go_sem] theorem r_len_n (sz : Nat) : lenR ob 1 (.nils sz) = some ⟨.d (.int .i64 0), [], []⟩ := rfl
@[go_sem] theorem r_len_l (sz : Nat) (xs : List Data) : lenR ob 1 (.lim sz xs) = some ⟨.d (.int .i64 xs.length), [], []⟩ := rfl
@[go_sem] theorem r_len_o (o : Nat) : lenR ob 1 (.own o) = lenArr o (oget ob o) := rfl
@[go_sem] theorem r_lena (o sz : Nat) (xs : List Data) (u : Bool) : lenArr o (some (.arr sz xs u)) = some ⟨.d (.int .i64 xs.length), [], [o]⟩ := rfl
@[go_sem] theorem r_mx (k k' : IntKind) (a b : Int) : maxR (.d (.int k a)) (.d (.int k' b)) = some ⟨.d (.int k (bcond (decide (b > a)) (fun _ => b) (fun _ => a))), [], []⟩ := rfl
@[go_sem] theorem r_mn (k k' : IntKind) (a b : Int) : minR (.d (.int k a)) (.d (.int k' b)) = some ⟨.d (.int k (bcond (decide (b < a)) (fun _ => b) (fun _ => a))), [], []⟩ := rfl
@[go_sem] theorem r_callv (args : List AV) (f : Nat) (cap : List AV) : callvR att call base args ob (.clos f cap) = bcond (Nat.ble 32768 f) (fun _ => doCall (att (f - 32768)) call base (f - 32768) (cap ++ args) ob) (fun _ => doCall (att f) call base f (args ++ cap) ob) := nr rfl
@[go_sem] theorem r_append (x : Nat × Option AObj) (a b : Objs) : (x :: a) ++ b = x :: (a ++ b) := rfl
@[go_sem] theorem r_append0 (b : Objs) : [] ++ b = b := rfl
@[go_sem] theorem r_callIn (a : Attr) (f : Nat) (args : List AV) (sh : Objs) (rd names : List Nat) : callIn a call base f args ob sh rd names =
    obind (call f (renL (fun o => idxOf o names) args) (subObjs (sh ++ ob) (fun o => idxOf o names) 0 names)) fun r => callBack a base names sh rd r := nr rfl
@[go_sem] theorem r_doCall (k ro : Bool) (f : Nat) (args : List AV) : doCall ⟨false, k, ro⟩ call base f args ob =
    callIn ⟨false, k, ro⟩ call base f (viewArgs ob args) ob (shareUpd ob (sharedL args)) (looked ob args (reach ob 1000 (namesL (viewArgs ob args)) [])) (reach ob 1000 (namesL (viewArgs ob args)) []) := nr rfl
@[go_sem] theorem r_doCallr (k ro : Bool) (f : Nat) (args : List AV) : doCall ⟨true, k, ro⟩ call base f args ob =
    callIn ⟨true, k, ro⟩ call base f args ob [] (looked ob args (reach ob 1000 (namesL args) [])) (reach ob 1000 (namesL args) []) := nr rfl
def isDs : List AV → Bool
  | [] => true
  | .d _ :: l => isDs l
  | _ => false
theorem isDs_view {ob : Objs} : ∀ {l : List AV}, isDs l = true → viewArgs ob l = l ∧ sharedL l = [] ∧ namesL l = []
  | [], _ => ⟨rfl, rfl, rfl⟩
  | .d x :: l, h => by
    obtain ⟨a, b, c⟩ := isDs_view (l := l) h
    exact ⟨by show AV.d x :: viewArgs ob l = _; rw [a], by show [] ++ sharedL l = _; rw [b]; rfl, by show [] ++ namesL l = _; rw [c]; rfl⟩
theorem isDs_ren {ρ : Nat → Option Nat} : ∀ {l : List AV}, isDs l = true → renL ρ l = l
  | [], _ => rfl
  | .d x :: l, h => by show AV.d x :: renL ρ l = _; rw [isDs_ren (l := l) h]
@[go_sem] theorem isDs_n : isDs [] = true := rfl
@[go_sem] theorem isDs_c (x : Data) (l : List AV) : isDs (.d x :: l) = isDs l := rfl
/-- a call with data alone -/
theorem r_doCalld (k ro : Bool) (f : Nat) (args : List AV) (h : isDs args = true) : doCall ⟨false, k, ro⟩ call base f args ob = obind (call f args []) fun r => callBack ⟨false, k, ro⟩ base [] [] [] r := by
  obtain ⟨a, b, c⟩ := isDs_view (ob := ob) h
  rw [r_doCall, a, b, c]
  have e : reach ob 1000 [] [] = [] := rfl
  rw [e]
  show callIn _ call base f args ob [] (looked ob args []) [] = _
  rw [show looked ob args [] = [] by unfold looked; rw [c]; rfl, r_callIn, isDs_ren h]
  rfl
@[go_sem high] theorem r_dc0 (k ro : Bool) (f : Nat) : doCall ⟨false, k, ro⟩ call base f [] ob = obind (call f [] []) fun r => callBack ⟨false, k, ro⟩ base [] [] [] r := r_doCalld _ _ _ _ _ _ _ rfl
@[go_sem high] theorem r_dc1 (k ro : Bool) (f : Nat) (x0 : V.Data) : doCall ⟨false, k, ro⟩ call base f [.d x0] ob = obind (call f [.d x0] []) fun r => callBack ⟨false, k, ro⟩ base [] [] [] r := r_doCalld _ _ _ _ _ _ _ rfl
@[go_sem high] theorem r_dc2 (k ro : Bool) (f : Nat) (x0 x1 : V.Data) : doCall ⟨false, k, ro⟩ call base f [.d x0, .d x1] ob = obind (call f [.d x0, .d x1] []) fun r => callBack ⟨false, k, ro⟩ base [] [] [] r := r_doCalld _ _ _ _ _ _ _ rfl
@[go_sem high] theorem r_dc3 (k ro : Bool) (f : Nat) (x0 x1 x2 : V.Data) : doCall ⟨false, k, ro⟩ call base f [.d x0, .d x1, .d x2] ob = obind (call f [.d x0, .d x1, .d x2] []) fun r => callBack ⟨false, k, ro⟩ base [] [] [] r := r_doCalld _ _ _ _ _ _ _ rfl
@[go_sem high] theorem r_dc4 (k ro : Bool) (f : Nat) (x0 x1 x2 x3 : V.Data) : doCall ⟨false, k, ro⟩ call base f [.d x0, .d x1, .d x2, .d x3] ob = obind (call f [.d x0, .d x1, .d x2, .d x3] []) fun r => callBack ⟨false, k, ro⟩ base [] [] [] r := r_doCalld _ _ _ _ _ _ _ rfl
@[go_sem high] theorem r_dc5 (k ro : Bool) (f : Nat) (x0 x1 x2 x3 x4 : V.Data) : doCall ⟨false, k, ro⟩ call base f [.d x0, .d x1, .d x2, .d x3, .d x4] ob = obind (call f [.d x0, .d x1, .d x2, .d x3, .d x4] []) fun r => callBack ⟨false, k, ro⟩ base [] [] [] r := r_doCalld _ _ _ _ _ _ _ rfl
@[go_sem high] theorem r_dc6 (k ro : Bool) (f : Nat) (x0 x1 x2 x3 x4 x5 : V.Data) : doCall ⟨false, k, ro⟩ call base f [.d x0, .d x1, .d x2, .d x3, .d x4, .d x5] ob = obind (call f [.d x0, .d x1, .d x2, .d x3, .d x4, .d x5] []) fun r => callBack ⟨false, k, ro⟩ base [] [] [] r := r_doCalld _ _ _ _ _ _ _ rfl
@[go_sem] theorem r_backd (k ro : Bool) (rd : List Nat) (x : Data) : callBack ⟨false, k, ro⟩ base [] [] rd (.d x, []) = need (k || (x.flat && true)) (some ⟨.d x, [], rd⟩) := by
  unfold callBack
  cases k <;> cases ro <;> rfl
@[go_sem] theorem r_fl_i (k : IntKind) (n : Int) : (Data.int k n).flat = true := rfl
@[go_sem] theorem r_fl_b (n : Bool) : (Data.bool n).flat = true := rfl
@[go_sem] theorem r_fl_s (n : List UInt8) : (Data.str n).flat = true := rfl
/-! ### loops -/
end
section
variable {vf : Nat → Option VFn} {att : Nat → Attr} {ext : ExtT}
/-- a loop whose rounds are told by a number -/
theorem loop_for {keep : List Nat} {c : VC} {I : Nat → St} {n : Nat} {e : Out × St} (hs : ∀ i, i < n → ∃ s, exec att (runW vf att ext) (loopW vf att ext) c (I i) = some (.normal, s) ∧ norm keep s = I (i + 1))
    (he : exec att (runW vf att ext) (loopW vf att ext) c (I n) = some e) (hn : e.1 ≠ .normal) : ∀ k i, i + k = n → loopW vf att ext keep c (I i) = some e
  | 0, i, h => by
    have : i = n := by omega
    subst this
    exact loopW_out1 he hn
  | k + 1, i, h => by
    obtain ⟨s, h1, h2⟩ := hs i (by omega)
    refine loopW_next h1 ?_
    rw [h2]
    exact loop_for hs he hn k (i + 1) (by omega)
theorem loop_from0 {keep : List Nat} {c : VC} {I : Nat → St} {n : Nat} {e : Out × St} (hs : ∀ i, i < n → ∃ s, exec att (runW vf att ext) (loopW vf att ext) c (I i) = some (.normal, s) ∧ norm keep s = I (i + 1))
    (he : exec att (runW vf att ext) (loopW vf att ext) c (I n) = some e) (hn : e.1 ≠ .normal) : loopW vf att ext keep c (I 0) = some e := loop_for hs he hn n 0 (by omega)
end
theorem bsplit {α : Type} {b : Bool} {x y : Unit → α} {r : α} (h1 : b = true → x () = r) (h2 : b = false → y () = r) : bcond b x y = r := by
  cases b with
  | true => exact h1 rfl
  | false => exact h2 rfl
theorem bcond_id (b : Bool) (x y : Bool) : bcond b (fun _ => x) (fun _ => y) = ((b && x) || (!b && y)) := by cases b <;> simp [bcond]
/-- a loop that ends, whatever its rounds come to -/
theorem loop_ends {vf : Nat → Option VFn} {att : Nat → Attr} {ext : ExtT} {keep : List Nat} {c : VC} {I : Nat → St} {n : Nat} {Q : Out × St → Prop}
    (hs : ∀ i, i < n → (∃ s, exec att (runW vf att ext) (loopW vf att ext) c (I i) = some (.normal, s) ∧ norm keep s = I (i + 1)) ∨ (∃ e, exec att (runW vf att ext) (loopW vf att ext) c (I i) = some e ∧ e.1 ≠ .normal ∧ Q e))
    (he : ∃ e, exec att (runW vf att ext) (loopW vf att ext) c (I n) = some e ∧ e.1 ≠ .normal ∧ Q e) : ∀ k i, i + k = n → ∃ e, loopW vf att ext keep c (I i) = some e ∧ Q e
  | 0, i, h => by
    have : i = n := by omega
    subst this
    obtain ⟨e, h1, h2, h3⟩ := he
    exact ⟨e, loopW_out1 h1 h2, h3⟩
  | k + 1, i, h => by
    rcases hs i (by omega) with ⟨s, h1, h2⟩ | ⟨e, h1, h2, h3⟩
    · obtain ⟨e, h3, h4⟩ := loop_ends hs he k (i + 1) (by omega)
      exact ⟨e, loopW_next h1 (by rw [h2]; exact h3), h4⟩
    · exact ⟨e, loopW_out1 h1 h2, h3⟩
attribute [go_sem] Nat.reduceBEq Nat.reduceAdd List.drop List.length_map Int.lt_irrefl decide_false decide_true List.length_nil List.length_cons enumFr Bool.true_and Bool.and_true Bool.false_and Bool.and_false Int.toNat_natCast List.getElem?_map Option.map_some allSome resOf List.take Bool.or_true Bool.true_or Bool.or_false Bool.false_or Nat.reduceLeDiff Nat.zero_add Nat.add_zero Bool.not_true Bool.not_false beq_true beq_false decide_not Bool.not_not
@[go_sem] theorem nonneg_nat (n : Nat) : decide (0 ≤ (n : Int)) = true := by simp
theorem matTop_d (n : Nat) (x : V.Data) : matTop n (.d x) = ⟨.d x, [], n⟩ := by
  unfold matTop matV; rfl
@[go_sem] theorem fin1_d (fr : Fr) (ob : Objs) (nx : Nat) (ro : Bool) (x : V.Data) : fin1 ⟨fr, ob, nx, 0, ro⟩ [.d x] = some (.d x, []) := by
  unfold fin1
  show fin2 (canon 0 nx [.d x] ob) = _
  unfold canon
  have e : matRoots nx [.d x] = ⟨[.d x], [], nx⟩ := by
    unfold matRoots; rw [matTop_d]; rfl
  rw [e]
  rfl
/-- a branch, taken apart: the condition first -/
theorem csplit {α : Type} {att : Nat → Attr} {call : CallT} {L : LoopT} {t : Bool} {a b : VC} {st : St} {f : Out × St → Option α} {r : Option α}
    (h1 : t = true → obind (exec att call L a st) f = r) (h2 : t = false → obind (exec att call L b st) f = r) : obind (cex t att call L a b st) f = r := by
  cases t with
  | true => exact h1 rfl
  | false => exact h2 rfl
theorem gsplit {α : Type} {att : Nat → Attr} {call : CallT} {t : Bool} {d : Option Nat} {op : VOp} {b : Nat} {l : List COp} {st : St} {f : St → Option α} {r : Option α}
    (h1 : t = true → obind (gex true att call d op b l st) f = r) (h2 : t = false → obind (gex false att call d op b l st) f = r) : obind (gex t att call d op b l st) f = r := by
  cases t with
  | true => exact h1 rfl
  | false => exact h2 rfl
theorem gsplitE {α : Type} {att : Nat → Attr} {call : CallT} {t : Bool} {d : Option Nat} {op : VOp} {b : Nat} {l : List COp} {st : St} {es : List Eff} {f : St × List Eff → Option α} {r : Option α}
    (h1 : t = true → obind (gexE true att call d op b l st es) f = r) (h2 : t = false → obind (gexE false att call d op b l st es) f = r) : obind (gexE t att call d op b l st es) f = r := by
  cases t with
  | true => exact h1 rfl
  | false => exact h2 rfl
end Go.V

namespace Go.V

inductive T where
  | mk (kind prio : Int) (name : List UInt8) (shift : Int) (labels : List (List UInt8)) (kids : List T)
  deriving Inhabited

mutual
def T.data : T → Data
  | .mk k p n s ls ks => .agg [.int .i64 k, .int .i64 p, .str n, .int .i64 s, .sl 1 (ls.map .str), .sl 6 (T.dataL ks)]
def T.dataL : List T → List Data
  | [] => []
  | t :: l => t.data :: T.dataL l
end
theorem T.dataL_eq (l : List T) : T.dataL l = l.map T.data := by
  induction l with
  | nil => rfl
  | cons t l ih => rw [T.dataL, ih]; rfl
def T.kids : T → List T | .mk _ _ _ _ _ ks => ks
def T.labels : T → List (List UInt8) | .mk _ _ _ _ ls _ => ls
def T.kind : T → Int | .mk k _ _ _ _ _ => k
def T.prio : T → Int | .mk _ p _ _ _ _ => p
def T.name : T → List UInt8 | .mk _ _ n _ _ _ => n
def T.shift : T → Int | .mk _ _ _ s _ _ => s
theorem T.data_eq (t : T) : t.data = .agg [.int .i64 t.kind, .int .i64 t.prio, .str t.name, .int .i64 t.shift, .sl 1 (t.labels.map .str), .sl 6 (t.kids.map T.data)] := by
  cases t; rw [T.data, T.dataL_eq]; rfl
theorem T.ind {p : T → Prop} (h : ∀ t, (∀ s ∈ t.kids, p s) → p t) (t : T) : p t :=
  T.rec (motive_1 := p) (motive_2 := fun l => ∀ s ∈ l, p s) (fun _ _ _ _ _ ks ih => h _ ih) (fun _ hs => by cases hs) (fun t l ht hl s hs => by
    rcases List.mem_cons.1 hs with e | hs
    · exact e ▸ ht
    · exact hl s hs) t

mutual
def T.size : T → Nat
  | .mk _ _ _ _ _ ks => 1 + T.sizeL ks
def T.sizeL : List T → Nat
  | [] => 0
  | t :: l => t.size + T.sizeL l
end
theorem T.size_eq (t : T) : t.size = 1 + T.sizeL t.kids := by cases t; rw [T.size]; rfl
theorem T.sizeL_take (l : List T) (i : Nat) (s : T) (h : l[i]? = some s) : T.sizeL (l.take (i + 1)) = T.sizeL (l.take i) + s.size := by
  induction l generalizing i with
  | nil => cases h
  | cons t l ih =>
    cases i with
    | zero => injection h with h; subst h; simp [T.sizeL]
    | succ i => simp only [List.take_succ_cons, T.sizeL]; rw [ih i h]; omega
theorem T.sizeL_le (l : List T) (i : Nat) : T.sizeL (l.take i) ≤ T.sizeL l := by
  induction l generalizing i with
  | nil => simp [T.sizeL]
  | cons t l ih =>
    cases i with
    | zero => simp [T.sizeL]
    | succ i => simp only [List.take_succ_cons, T.sizeL]; have := ih i; omega
theorem T.size_mem {l : List T} {s : T} (h : s ∈ l) : s.size ≤ T.sizeL l := by
  induction l with
  | nil => cases h
  | cons t l ih =>
    rw [T.sizeL]
    rcases List.mem_cons.1 h with e | h
    · subst e; omega
    · have := ih h; omega

theorem wrap64 {x : Int} (h1 : -9223372036854775808 ≤ x) (h2 : x < 9223372036854775808) : IntKind.wrap .i64 x = x := by
  have e1 : (2 ^ IntKind.i64.bits : Int) = 18446744073709551616 := by decide
  have e2 : (2 ^ (IntKind.i64.bits - 1) : Int) = 9223372036854775808 := by decide
  have e3 : IntKind.i64.signed = true := rfl
  unfold IntKind.wrap
  rw [e1, e2, e3]
  dsimp only
  simp only [Bool.true_and, decide_eq_true_eq]
  split <;> omega
end Go.V
