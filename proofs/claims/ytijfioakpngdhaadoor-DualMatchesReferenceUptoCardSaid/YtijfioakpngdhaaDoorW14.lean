/- The law DualMatchesReference. -/
import Derived.Test.YtijfioakpngdhaaDoorW13
namespace Go.Proofs.YtijfioakpngdhaaDoor
open Go.V
set_option maxRecDepth 100000
set_option linter.unusedSimpArgs false
set_option linter.unusedVariables false

theorem nodesE_all (P : Nd → Prop) (h : ∀ (t : T) (a : Int) (names : List (List UInt8)) (refs : List Rf), Shp t → t.kind ≤ 7 → P ⟨t.kind, t.prio, t.labels, nextsL t.kids a names refs⟩) (t : T) :
    ∀ (a : Int) (names : List (List UInt8)) (refs : List Rf), Shp t → ∀ x ∈ nodesE t a names refs, P x := by
  induction t using T.ind with
  | h t ih =>
  intro a names refs hs n hn
  have hL : ∀ (l : List T) (a : Int), (∀ s ∈ l, s ∈ t.kids) → ∀ n ∈ nodesL l a names refs, P n := by
    intro l
    induction l with
    | nil => intro _ _ n hn; cases hn
    | cons x l ihl =>
      intro a hx n hn
      rw [nodesL] at hn
      rcases List.mem_append.1 hn with hn | hn
      · exact ih x (hx x List.mem_cons_self) _ _ _ (hs.kid x (hx x List.mem_cons_self)) n hn
      · exact ihl _ (fun s h => hx s (List.mem_cons_of_mem _ h)) n hn
  have hk := shape_kinds hs.sh
  rw [nodesE_eq] at hn
  by_cases h8 : t.kind = 8
  · obtain ⟨s, hks⟩ := hs.one h8
    have hm : s ∈ t.kids := by rw [hks]; exact List.mem_singleton.2 rfl
    rw [if_pos h8, hks, nodes1] at hn
    exact ih s hm _ _ _ (hs.kid s hm) n hn
  · rw [if_neg h8] at hn
    by_cases h9 : t.kind = 9
    · rw [if_pos h9] at hn; cases hn
    · rw [if_neg h9] at hn
      rcases List.mem_cons.1 hn with hn | hn
      · subst hn
        exact h t (a + 1) names refs hs (by omega)
      · exact hL _ _ (fun s h => h) n hn
theorem nodesL_all (P : Nd → Prop) (h : ∀ (t : T) (a : Int) (names : List (List UInt8)) (refs : List Rf), Shp t → t.kind ≤ 7 → P ⟨t.kind, t.prio, t.labels, nextsL t.kids a names refs⟩) (l : List T) :
    ∀ (a : Int) (names : List (List UInt8)) (refs : List Rf), (∀ t ∈ l, Shp t) → ∀ x ∈ nodesL l a names refs, P x := by
  induction l with
  | nil => intro _ _ _ _ n hn; cases hn
  | cons x l ihl =>
    intro a names refs hs n hn
    rw [nodesL] at hn
    rcases List.mem_append.1 hn with hn | hn
    · exact nodesE_all P h x _ _ _ (hs x List.mem_cons_self) n hn
    · exact ihl _ _ _ (fun s h => hs s (List.mem_cons_of_mem _ h)) n hn
/-- actions have two references, data none -/
def KindsOk (x : Nd) : Prop := x.kind ≤ 7 ∧ (x.kind ≤ 5 → x.next.length ≤ 2)
theorem shape_kids {t : T} (h : shapeB t = true) (h5 : t.kind ≤ 5) : t.kids.length ≤ 2 := by
  have hk := shape_kinds h
  unfold shapeB at h
  by_cases h1 : t.kind = 1
  · simp [h1] at h; simp [h.2.2.2.2]
  by_cases h2 : t.kind = 2
  · simp [h2] at h; simp [h.2.2.2.2]
  by_cases h3 : t.kind = 3
  · simp [h3] at h; simp [h.2.2.2.2]
  by_cases h4 : t.kind = 4
  · simp [h4] at h; omega
  by_cases h5 : t.kind = 5
  · simp [h5] at h; omega
  omega
theorem nodesL_kinds (l : List T) (h : ∀ t ∈ l, Shp t) : ∀ x ∈ nodesL l 0 [] [], KindsOk x :=
  nodesL_all KindsOk (fun t a names refs hs h7 => ⟨h7, fun h5 => by
    show (nextsL t.kids a names refs).length ≤ 2
    rw [nextsL_len]; exact shape_kids hs.sh h5⟩) l 0 [] [] h
theorem upC_up (k n : Int) (j : Nat) (r : Rf) (h7 : k ≤ 7) (hj : k ≤ 5 → j < 2) : upC k n j r = upR k n j r := by
  unfold upC upR
  by_cases h : (j : Int) = 1 ∨ 6 ≤ k
  · rw [if_pos h, if_pos]
    rcases h with h | h
    · left; omega
    · right; omega
  · rw [if_neg h, if_neg]
    intro hh
    by_cases h5 : k ≤ 5
    · have := hj h5; omega
    · omega
theorem closeC_eq (N : List Nd) (h : ∀ x ∈ N, KindsOk x) : closeC N = closeE N := by
  unfold closeC closeE
  congr 1
  refine List.map_congr_left fun x hx => ?_
  obtain ⟨h7, h5⟩ := h x hx
  unfold dualC dualN
  congr 1
  unfold upCL upL
  apply List.ext_getElem?
  intro j
  rw [List.getElem?_mapIdx, List.getElem?_mapIdx]
  cases hj : x.next[j]? with
  | none => rfl
  | some r =>
    have := (List.getElem?_eq_some_iff.1 hj).1
    simp only [Option.map_some]
    rw [upC_up _ _ _ _ h7 fun h => by have := h5 h; omega]

theorem matches_run (l : List T) (k : Int) (hl : l.length < 1000000000000000) (hw : ∀ t ∈ l, Wf t) :
    RW 3 [.d (.sl 6 (l.map T.data)), .d (.int .i64 k)] [] = some (.d (.bool true), []) := by
  have ha := awake_run
  obtain ⟨b, hf, hb⟩ := fews_run l 10 200 hl hw (by omega) (by omega)
  refine runW_fn rfl rfl ?_
  unfold runFn c3
  cases b with
  | false => simp only [go_sem, ha, hf]
  | true =>
    have hfew := hb.1 rfl
    have hfine := few_fine hw (by omega) (by omega) hfew
    have hg := graph_run l hfine
    have hbd := build_run l hfine
    have hok := fine_nd hfine
    have hkd := nodesL_kinds l hfine.shp
    have hbd2 := nodesL_bound l 0 hfine.shp
    have hsz := hfine.size
    generalize nodesL l 0 [] [] = N at *
    have hcl := close_run N hok
    have hcc := closeC_run N hok
    rw [closeC_eq N hkd] at hcc
    have hlen := hok.len
    have s1 := same_run (closeE N) (by rw [closeE_len]; omega) (fun x hx => by
      unfold closeE at hx
      rcases List.mem_append.1 hx with hx | hx
      · have := hok.lists x hx; omega
      · obtain ⟨y, hy, rfl⟩ := List.mem_map.1 hx
        have := hok.lists y hy
        refine ⟨this.1, ?_⟩
        show (upL y.kind N.length y.next).length < _
        unfold upL
        rw [List.length_mapIdx]; exact this.2)
    have s2 := same_run N (by omega) (fun x hx => by have := hok.lists x hx; omega)
    have k1 := kind_run k
    have k2 := kindR_run k
    generalize closeE N = C at *
    simp only [go_sem, ha, hf, hg, hbd, hcl, hcc, s1, s2, k1, k2]
end Go.Proofs.YtijfioakpngdhaaDoor
