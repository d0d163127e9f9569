/- The value machine and the program's operations: loads and stores. -/
import Derived.Test.YtijfioakpngdhaaDoorMA
import Derived.Laws.MakeOwn
import Derived.Deep.AppendSrc
import Derived.Deep.Upon
import Derived.Laws.IdiomCopy
import Derived.MapKept
set_option linter.unusedVariables false
set_option linter.unusedSimpArgs false
namespace Go.V

theorem inArr_get {c : Cx} {sz : Nat} {arr : Array Value} : ∀ (off : Nat) (xs : List Data) (i : Nat) (x : Data), InArr c sz arr off xs → xs[i]? = some x →
    ∃ v, DRep c.w c.S x v ∧ v.cells.size = sz ∧ ∀ t u, v.cells[t]? = some u → arr[off + i * sz + t]? = some u
  | off, [], i, x, _, hx => by simp at hx
  | off, y :: xs, 0, x, h, hx => by simp at hx; subst hx; simpa using h.1
  | off, y :: xs, i + 1, x, h, hx => by
    have := inArr_get (off + sz) xs i x h.2 (by simpa using hx)
    rw [Nat.add_mul, Nat.one_mul, Nat.add_comm (i * sz) sz, ← Nat.add_assoc]
    exact this
theorem inArr_of {c : Cx} {sz : Nat} {arr : Array Value} : ∀ (off : Nat) (xs : List Data),
    (∀ i x, xs[i]? = some x → ∃ v, DRep c.w c.S x v ∧ v.cells.size = sz ∧ ∀ t u, v.cells[t]? = some u → arr[off + i * sz + t]? = some u) → InArr c sz arr off xs
  | off, [], _ => trivial
  | off, y :: xs, h => by
    refine ⟨by simpa using h 0 y rfl, inArr_of (off + sz) xs fun i x hx => ?_⟩
    have := h (i + 1) x (by simpa using hx)
    rw [Nat.add_mul, Nat.one_mul, Nat.add_comm (i * sz) sz, ← Nat.add_assoc] at this
    exact this

theorem DReps.length {w : World} {S : Nat → Nat → Prop} : ∀ {cs : List Data} {vs : List Value}, DReps w S cs vs → vs.length = cs.length
  | [], vs, h => by have h' : vs = [] := h; rw [h']; rfl
  | c :: cs, vs, h => by obtain ⟨v, vs', rfl, _, h2⟩ := h; simp [DReps.length h2]

theorem eptr_list {w : World} {S : Nat → Nat → Prop} {b : Nat} : ∀ (off : Nat) (cs : List Data), (∀ j x, cs[j]? = some x → ∃ u, World.at_ w b (off + j) = some u ∧ S b (off + j) ∧ DRep w S x u ∧ u.oneCell' = true) →
    ∃ vs : List Value, DReps w S cs vs ∧ (∀ u ∈ vs, u.oneCell' = true) ∧ ∀ j u, vs[j]? = some u → World.at_ w b (off + j) = some u
  | off, [], _ => ⟨[], rfl, by simp, by simp⟩
  | off, x :: cs, h => by
    obtain ⟨u, h1, _, h3, h4⟩ := h 0 x rfl
    obtain ⟨vs, k1, k2, k3⟩ := eptr_list (off + 1) cs fun j y hj => by
      have := h (j + 1) y (by simpa using hj)
      rw [Nat.add_assoc, Nat.add_comm 1 j]
      exact this
    refine ⟨u :: vs, ⟨u, vs, rfl, h3, k1⟩, ?_, ?_⟩
    · intro v hv
      rcases List.mem_cons.1 hv with e | hv
      · subst e; exact h4
      · exact k2 v hv
    · intro j v hj
      cases j with
      | zero => simp at hj; subst hj; simpa using h1
      | succ j =>
        simp at hj
        have := k3 j v hj
        rw [Nat.add_assoc, Nat.add_comm 1 j] at this
        exact this

section
variable {gl : GlT} {P : Program} {o : Oper} {a : Act} {w : World} {g : Gh} {ob : Objs} {U : Nat → Prop} {fr : Fr} {base W : Nat} {r : R}

theorem run_loadAt {c : Cx} {t n b off : Nat} {agg : Bool} {cs : List AV} {vs : List Value} {v : AV} (ha : isAggT P t = some agg) (hn : sizeT P t = some n) (hl : loadCells agg n cs = some v) (hr : VReps c cs vs) (h1 : ∀ u ∈ vs, u.oneCell' = true)
    (hc : ∀ j u, vs[j]? = some u → World.at_ w b (off + j) = some u) : ∃ u, (Instr.loadAt t (.pointer (some ⟨b, off, none⟩))).run P w = .ok u w ∧ VRep c v u := by
  have hrun : (Instr.loadAt t (.pointer (some ⟨b, off, none⟩))).run P w = (loadVar t ⟨b, off, none⟩).run P w := by
    simp only [Instr.loadAt, Sem.run_bind, Instr.sureAddr, Sem.run_pure, Result.andThen_ok]
  rcases loadCells_rep hl hr h1 with ⟨e, hle, hv⟩ | ⟨e, u, hu, hv⟩
  · exact ⟨_, hrun.trans ((run_loadVar ha hn hc).1 e hle), hv⟩
  · exact ⟨_, hrun.trans ((run_loadVar ha hn hc).2 e u hu), hv⟩

theorem ok_load (h : Here gl a w g ob U fr) {x : Operand} {x' : Opd} {t t1 n : Nat} {agg : Bool} (ho : o.op = .load t x) (ha : isAggT P t = some agg) (hn : sizeT P t = some n) (h1 : opd gl P t1 x = some x')
    (hr : loadR agg n ob (x'.ev fr) = some r) : Runs P o a w (Done w g ob U base W r) := by
  have e1 := h.opd h1
  generalize x'.ev fr = v1 at hr e1
  have go : ∀ (cs : List AV) (vs : List Value) (b off : Nat) (v : AV) (rd : List Nat), a.eval x = .pointer (some ⟨b, off, none⟩) → loadCells agg n cs = some v → VReps (cx w g ob) cs vs → (∀ u ∈ vs, u.oneCell' = true) →
      (∀ j u, vs[j]? = some u → World.at_ w b (off + j) = some u) → NamesIn U (namesL cs) → some ⟨v, [], rd⟩ = some r → Runs P o a w (Done w g ob U base W r) := by
    intro cs vs b off v rd ea hl hv h1c hc hnm hr
    injection hr with hr; subst hr
    obtain ⟨u, hrun, hrep⟩ := run_loadAt (P := P) ha hn hl hv h1c hc
    refine runs_val h (val := u) ?_ hrep (loadCells_names hl hnm)
    simp only [execOp, ho, Sem.run_bind, ea, hrun, Result.andThen_ok, Sem.run_pure]
  cases v1 with
  | ptr i off =>
    change loadBox agg n i off (oget ob i) = some r at hr
    obtain ⟨b, hb, ea⟩ := e1
    cases hy : oget ob i with
    | none => rw [hy] at hr; cases hr
    | some y => cases y with
      | box cs =>
        rw [hy] at hr
        obtain ⟨v, hv, hr2⟩ := obind_eq hr
        obtain ⟨b', tt, vs, q1, q2, q3, q4⟩ := h.good.rep i _ hy
        have : b' = b := by rw [hb] at q1; injection q1 with q1; exact q1.symm
        subst this
        refine go (cs.drop off) (vs.drop off) b' off v _ ea hv (VReps.drop off q4) (fun u hu => q3 u (List.mem_of_mem_drop hu)) (fun j u hj => ?_) (namesIn_sub (h.good.dom i _ hy).2 fun z hz => List.mem_of_mem_drop hz) hr2
        rw [at_eq, show w.heap[b']? = some (.cells vs.toArray tt (0, 0)) from q2]
        rw [List.getElem?_drop] at hj
        simpa using hj
      | _ => rw [hy] at hr; cases hr
  | eptr cs =>
    obtain ⟨v, hv, hr2⟩ := obind_eq hr
    obtain ⟨b, off, ea, hc⟩ := e1
    obtain ⟨vs, k1, k2, k3⟩ := eptr_list off cs hc
    exact go (dcells cs) vs b off v [] ea hv (DReps.dcells (c := cx w g ob) k1) k2 k3 (by rw [dcells_names]; intro q hq; cases hq) hr2
  | optr i j off =>
    change loadArr agg n i j off (oget ob i) = some r at hr
    cases hy : oget ob i with
    | none => rw [hy] at hr; cases hr
    | some y => cases y with
      | arr sz xs u =>
        rw [hy] at hr
        change loadElem agg n i off xs[j]? = some r at hr
        cases hx : xs[j]? with
        | none => rw [hx] at hr; cases hr
        | some z =>
          rw [hx] at hr
          obtain ⟨v, hv, hr2⟩ := obind_eq hr
          have hl : (cx w g ob).ln i = some (sz, xs.length) := by show lnOf ob i = _; unfold lnOf; rw [hy]
          obtain ⟨b, hb, ea⟩ := e1.2 sz _ hl
          rcases h.good.rep i _ hy with ⟨q1, q2⟩ | ⟨b', arr, tt, q1, q2, q3, q4, q5, q6⟩
          · subst q2; simp at hx
          · have : b' = b := by rw [hb] at q1; injection q1 with q1; exact q1.symm
            subst this
            obtain ⟨val, p1, p2, p3⟩ := inArr_get 0 xs j z q6 hx
            obtain ⟨vs, c1, c2, c3⟩ := DRep.cells p1
            refine go (dcells (z.cells.drop off)) (vs.drop off) b' (j * sz + off) v _ ea hv (by rw [dcells_drop]; exact VReps.drop off (DReps.dcells (c := cx w g ob) c2)) (fun u hu => c3 u (List.mem_of_mem_drop hu)) (fun k u hk => ?_) (by rw [dcells_names]; intro q hq; cases hq) hr2
            rw [at_eq, show w.heap[b']? = some (.cells arr tt (0, 0)) from q2]
            rw [List.getElem?_drop] at hk
            have := p3 (off + k) u (by rw [c1, List.getElem?_toArray]; exact hk)
            rw [Nat.zero_add] at this
            rw [Nat.add_assoc]
            exact this
      | _ => rw [hy] at hr; cases hr
  | _ => cases hr

/-! ### stores -/
theorem putCells_eq : ∀ (l cs : List AV) (off : Nat), off + l.length ≤ cs.length → putCells cs off l = cs.take off ++ l ++ cs.drop (off + l.length)
  | [], cs, off, _ => by simp [putCells]
  | v :: l, cs, off, h => by
    simp only [List.length_cons] at h
    unfold putCells
    rw [putCells_eq l (cs.set off v) (off + 1) (by simp; omega)]
    rw [List.take_set, List.drop_set, if_pos (by omega)]
    have hlt : off < cs.length := by omega
    have hto : (cs.take off).length = off := by rw [List.length_take]; omega
    have e1 : (cs.take (off + 1)).set off v = cs.take off ++ [v] := by
      rw [List.take_succ_eq_append_getElem hlt, List.set_append_right _ _ (by omega), hto, Nat.sub_self]
      rfl
    rw [e1]
    simp only [List.append_assoc, List.length_cons, List.cons_append, List.nil_append]
    rw [show off + 1 + l.length = off + (l.length + 1) by omega]

theorem run_storeAt {t n b off : Nat} {cur : Array Value} {tt : TypeId} {vs : List Value} {v : Value} (hn : sizeT P t = some n) (hv : v.cells = vs.toArray) (hl : vs.length = n) (h1 : ∀ u ∈ vs, u.oneCell' = true)
    (hb : w.heap[b]? = some (.cells cur tt (0, 0))) (hle : off + n ≤ cur.size) :
    (Instr.storeAt t (.pointer (some ⟨b, off, none⟩)) v).run P w = .ok () (w.setRow b (cur.toList.take off ++ vs ++ cur.toList.drop (off + n)).toArray) := by
  have h := run_storeCells_at (P := P) b off tt vs 0 cur w hb (by omega) h1
  simp only [Instr.storeAt, Sem.run_bind, Instr.sureAddr, Sem.run_pure, Result.andThen_ok, storeVar, run_sizeOf hn, hv, List.size_toArray, hl, ne_eq, not_true_eq_false, if_false]
  rw [List.toList_toArray, h]
  simp only [Nat.add_zero, hl]

theorem setRow_step {b : Nat} {cur cs : Array Value} {tt : TypeId} (hb : w.heap[b]? = some (.cells cur tt (0, 0))) : (∀ k, k ≠ b → (w.setRow b cs).heap[k]? = w.heap[k]?) ∧ (w.setRow b cs).heap.size = w.heap.size ∧ (w.setRow b cs).heap[b]? = some (.cells cs tt (0, 0)) :=
  ⟨fun k hk => setRow_other w b k cs hk, setRow_size w b cs, setRow_heap w b cur cs tt (0, 0) hb⟩

theorem ok_store (h : Here gl a w g ob U fr) {x y : Operand} {x' y' : Opd} {t t1 t2 n : Nat} (ho : o.op = .store t x y) (hn : sizeT P t = some n) (h1 : opd gl P t1 x = some x') (h2 : opd gl P t2 y = some y')
    (hr : storeR n ob (x'.ev fr) (y'.ev fr) = some r) : Runs P o a w (Done w g ob U base W r) := by
  have e1 := h.opd h1
  have e2 := h.opd h2
  have n2 := h.opdn h2
  generalize x'.ev fr = v1 at hr e1
  generalize y'.ev fr = v2 at hr e2 n2
  obtain ⟨p, hr2⟩ := need_some hr
  clear hr
  simp only [Bool.and_eq_true, decide_eq_true_eq] at p
  obtain ⟨ps, pl⟩ := p
  obtain ⟨vs, c1, c2, c3⟩ := VRep.cells e2 ps
  have hvl : vs.length = n := by rw [VReps.length c2, pl]
  cases v1 with
  | ptr i off =>
    change storeBox n i off v2 (oget ob i) = some r at hr2
    obtain ⟨b, hb, ea⟩ := e1
    cases hy : oget ob i with
    | none => rw [hy] at hr2; cases hr2
    | some z => cases z with
      | box cs =>
        rw [hy] at hr2
        obtain ⟨hle, hr3⟩ := need_some hr2
        have hle := of_decide_eq_true hle
        injection hr3 with hr3; subst hr3
        obtain ⟨b', tt, us, q1, q2, q3, q4⟩ := h.good.rep i _ hy
        have : b' = b := by rw [hb] at q1; injection q1 with q1; exact q1.symm
        subst this
        have q2' : w.heap[b']? = some (.cells us.toArray tt (0, 0)) := q2
        have hul : us.length = cs.length := VReps.length q4
        have hrun := run_storeAt (P := P) (off := off) hn c1 hvl c3 q2' (by simp; omega)
        obtain ⟨s1, s2, s3⟩ := setRow_step (w := w) (cs := (us.toArray.toList.take off ++ vs ++ us.toArray.toList.drop (off + n)).toArray) q2'
        simp only [List.toList_toArray] at hrun s1 s2 s3
        have hput : putCells cs off v2.cells = cs.take off ++ v2.cells ++ cs.drop (off + n) := by rw [putCells_eq _ _ _ (by omega), pl]
        have hlater := mod_later (x' := .box (putCells cs off v2.cells)) (U := U) hy hb (fun _ => trivial) s1 (by unfold lnOf; rw [oget_cons, if_pos rfl, hy]) h.good
        have hnm : NamesIn U (namesL (putCells cs off v2.cells)) := by
          rw [hput]
          intro q hq
          obtain ⟨z, hz, hqz⟩ := namesL_iff.1 hq
          rcases List.mem_append.1 hz with hz | hz
          · rcases List.mem_append.1 hz with hz | hz
            · exact (h.good.dom i _ hy).2 q (namesL_mem (List.mem_of_mem_take hz) hqz)
            · exact n2 q (cells_names q (namesL_mem hz hqz))
          · exact (h.good.dom i _ hy).2 q (namesL_mem (List.mem_of_mem_drop hz) hqz)
        have hnc : NamesIn U (namesL cs) := (h.good.dom i _ hy).2
        have hst := mod_step (x' := .box (putCells cs off v2.cells)) h.good hy hb (fun _ => trivial) s1 s2 rfl rfl rfl (by unfold lnOf; rw [oget_cons, if_pos rfl, hy]) hnm
          ⟨b', tt, us.take off ++ vs ++ us.drop (off + n), hb, s3, by
            intro u hu
            rcases List.mem_append.1 hu with hu | hu
            · rcases List.mem_append.1 hu with hu | hu
              · exact q3 u (List.mem_of_mem_take hu)
              · exact c3 u hu
            · exact q3 u (List.mem_of_mem_drop hu), by
            have hput' := hput
            generalize putCells cs off v2.cells = pc at hput' hlater ⊢
            rw [hput'] at hlater ⊢
            exact VReps.append (VReps.append (VReps.mono hlater _ _ (namesIn_sub hnc fun z hz => List.mem_of_mem_take hz) (VReps.take off q4)) (VReps.mono hlater _ _ (fun q hq => n2 q (cells_names q hq)) c2))
              (VReps.mono hlater _ _ (namesIn_sub hnc fun z hz => List.mem_of_mem_drop hz) (VReps.drop (off + n) q4))⟩
        refine .inr (.inl ⟨_, ?_, g, hst.1.mono fun n => .inl, hst.2.mono fun q hq => by simp only [keysOf, List.mem_singleton]; exact hq, trivial, fun q hq => by cases hq⟩)
        simp only [execOp, ho, Sem.run_bind, ea, hrun, Result.andThen_ok, Sem.run_pure]
      | _ => rw [hy] at hr2; cases hr2
  | optr i j off =>
    change storeArr n i j off v2 ob (oget ob i) = some r at hr2
    cases hy : oget ob i with
    | none => rw [hy] at hr2; cases hr2
    | some z => cases z with
      | arr sz xs uu => cases uu with
        | false => rw [hy] at hr2; cases hr2
        | true =>
          rw [hy] at hr2
          obtain ⟨hnm, hr3⟩ := need_some hr2
          have hni : i ∉ ownNamesL v2.cells := by
            intro hm
            rw [(mem_iff i _).2 hm] at hnm
            cases hnm
          change storeElem n i j off sz xs v2 (shareUpd ob (ownNamesL v2.cells)) xs[j]? (allSome (AV.toD ob) v2.cells) = some r at hr3
          cases hx : xs[j]? with
          | none => rw [hx] at hr3; cases hr3
          | some x => cases hd : allSome (AV.toD ob) v2.cells with
            | none => rw [hx, hd] at hr3; cases hr3
            | some ds =>
              rw [hx, hd] at hr3
              obtain ⟨hle, hr4⟩ := need_some hr3
              have hle := of_decide_eq_true hle
              injection hr4 with hr4; subst hr4
              -- first the sharing
              let ob1 := shareUpd ob (ownNamesL v2.cells) ++ ob
              have hsh := shareUpd_shares ob (ownNamesL v2.cells)
              obtain ⟨hg1, hs1⟩ := shares_step (w := w) (g := g) h.good hsh
              have hds : DReps w (cx w g ob1).S ds vs := allToD_rep h.good hsh c2 hd (fun q hq => shareUpd_not ob _ q hq)
              have hy1 : oget ob1 i = some (.arr sz xs true) := by
                show oget (shareUpd ob (ownNamesL v2.cells) ++ ob) i = _
                rw [shareUpd_get, if_neg hni]; exact hy
              have hl : (cx w g ob).ln i = some (sz, xs.length) := by show lnOf ob i = _; unfold lnOf; rw [hy]
              obtain ⟨b, hb, ea⟩ := e1.2 sz _ hl
              rcases hg1.rep i _ hy1 with ⟨q1, q2⟩ | ⟨b', arr, tt, q1, q2, q3, q4, q5, q6⟩
              · subst q2; simp at hx
              · have : b' = b := by
                  have q1' : g.bl i = some b' := q1
                  rw [show g.bl i = some b from hb] at q1'; injection q1' with q1'; exact q1'.symm
                subst this
                have q2' : w.heap[b']? = some (.cells arr tt (0, 0)) := q2
                have hjlt : j < xs.length := (List.getElem?_eq_some_iff.1 hx).1
                obtain ⟨val, p1, p2, p3⟩ := inArr_get 0 xs j x q6 hx
                obtain ⟨ws, w1, w2, w3⟩ := DRep.cells p1
                have hwl : ws.length = sz := by rw [← p2, w1]; simp
                have hxl : x.cells.length = sz := by rw [← DReps.length w2, hwl]
                have hdl : ds.length = n := by rw [← DReps.length hds, hvl]
                have hbnd : (j + 1) * sz ≤ arr.size := by
                  rw [q3]
                  exact Nat.mul_le_mul_right _ (by omega)
                rw [Nat.add_mul, Nat.one_mul] at hbnd
                have hrun := run_storeAt (P := P) (off := j * sz + off) hn c1 hvl c3 q2' (by omega)
                obtain ⟨s1, s2, s3⟩ := setRow_step (w := w) (cs := (arr.toList.take (j * sz + off) ++ vs ++ arr.toList.drop (j * sz + off + n)).toArray) q2'
                have hlater := mod_later (x' := .arr sz (xs.set j (setElem x off n ds)) true) (U := U) hy1 hb (fun _ => .inl rfl) s1 (by unfold lnOf; rw [oget_cons, if_pos rfl, hy1]; simp) hg1
                have hget : ∀ k u, (arr.toList.take (j * sz + off) ++ vs ++ arr.toList.drop (j * sz + off + n))[k]? = some u ↔ (if k < j * sz + off then arr[k]? = some u else if k < j * sz + off + n then vs[k - (j * sz + off)]? = some u else arr[k]? = some u) := by
                  intro k u
                  have hlt : (arr.toList.take (j * sz + off)).length = j * sz + off := by simp; omega
                  rw [List.append_assoc, List.getElem?_append, hlt]
                  by_cases k1 : k < j * sz + off
                  · rw [if_pos k1, if_pos k1, List.getElem?_take, if_pos k1]; simp
                  · rw [if_neg k1, if_neg k1, List.getElem?_append, hvl]
                    by_cases k2 : k < j * sz + off + n
                    · rw [if_pos (by omega), if_pos k2]
                    · rw [if_neg (by omega), if_neg k2, List.getElem?_drop, show j * sz + off + n + (k - (j * sz + off) - n) = k by omega]; simp
                have hst := mod_step (x' := .arr sz (xs.set j (setElem x off n ds)) true) hg1 hy1 hb (fun _ => .inl rfl) s1 s2 rfl rfl rfl (by unfold lnOf; rw [oget_cons, if_pos rfl, hy1]; simp) (fun q hq => by cases hq)
                  (.inr ⟨b', _, tt, hb, s3, by
                    show _ = g.cp i * sz
                    have q3' : arr.size = g.cp i * sz := q3
                    rw [← q3']
                    simp; omega, by rw [List.length_set]; exact q4, q5, by
                    refine inArr_of 0 _ fun k y hk => ?_
                    rw [List.getElem?_set] at hk
                    by_cases hkj : j = k
                    · subst hkj
                      rw [if_pos rfl, if_pos hjlt] at hk
                      injection hk with hk; subst hk
                      -- the element that is written
                      have hnew : ∃ val', DRep w (cx w g ob1).S (setElem x off n ds) val' ∧ ∃ zs : List Value, val'.cells = zs.toArray ∧ zs = ws.take off ++ vs ++ ws.drop (off + n) := by
                        cases x with
                        | agg cs =>
                          obtain ⟨ws', e, o1, d1⟩ := p1
                          subst e
                          have : ws' = ws := by
                            have h' : ws'.toArray = ws.toArray := w1
                            simpa using h'
                          subst this
                          have dtake : ∀ (m : Nat) {cs : List Data} {zs : List Value}, DReps w (cx w g ob1).S cs zs → DReps w (cx w g ob1).S (cs.take m) (zs.take m) := by
                            intro m cs zs hd
                            have := VReps.take m (DReps.dcells (c := cx w g ob1) hd)
                            have he : ∀ (m : Nat) (cs : List Data), (dcells cs).take m = dcells (cs.take m) := by
                              intro m cs
                              induction cs generalizing m with
                              | nil => simp [dcells]
                              | cons z cs ih => cases m with
                                | zero => simp [dcells]
                                | succ m => simp [dcells, ih]
                            rw [he] at this
                            exact VReps.dcells' this
                          have ddrop : ∀ (m : Nat) {cs : List Data} {zs : List Value}, DReps w (cx w g ob1).S cs zs → DReps w (cx w g ob1).S (cs.drop m) (zs.drop m) := by
                            intro m cs zs hd
                            have := VReps.drop m (DReps.dcells (c := cx w g ob1) hd)
                            rw [← dcells_drop] at this
                            exact VReps.dcells' this
                          have dapp : ∀ {cs ds : List Data} {zs us : List Value}, DReps w (cx w g ob1).S cs zs → DReps w (cx w g ob1).S ds us → DReps w (cx w g ob1).S (cs ++ ds) (zs ++ us) := by
                            intro cs
                            induction cs with
                            | nil => intro ds zs us h1 h2; have h' : zs = [] := h1; subst h'; exact h2
                            | cons z cs ih =>
                              intro ds zs us h1 h2
                              obtain ⟨v, vs', rfl, k1, k2⟩ := h1
                              exact ⟨v, vs' ++ us, rfl, k1, ih k2 h2⟩
                          refine ⟨.agg (ws'.take off ++ vs ++ ws'.drop (off + n)).toArray, ⟨_, rfl, ?_, dapp (dapp (dtake off d1) hds) (ddrop (off + n) d1)⟩, _, rfl, rfl⟩
                          intro u hu
                          rcases List.mem_append.1 hu with hu | hu
                          · rcases List.mem_append.1 hu with hu | hu
                            · exact w3 u (List.mem_of_mem_take hu)
                            · exact c3 u hu
                          · exact w3 u (List.mem_of_mem_drop hu)
                        | _ =>
                          have hsz1 : sz = 1 := hxl.symm
                          have hle' : off + n ≤ 1 := hle
                          have hws : ws.length = 1 := by rw [hwl, hsz1]
                          rcases Nat.lt_or_ge 0 n with hn0 | hn0
                          · have : n = 1 := by omega
                            subst this
                            have : off = 0 := by omega
                            subst this
                            match ds, vs, hds, hdl, hvl with
                            | [dd], [vv], hds, _, _ =>
                              obtain ⟨v', vs', e', d1, _⟩ := hds
                              injection e' with e1' e2'
                              subst e1'
                              refine ⟨vv, d1, [vv], cells_single vv (c3 vv (by simp)), ?_⟩
                              rw [List.take_zero, List.drop_eq_nil_of_le (by omega)]; simp
                          · have : n = 0 := by omega
                            subst this
                            have hds0 : ds = [] := List.eq_nil_of_length_eq_zero hdl
                            have hvs0 : vs = [] := List.eq_nil_of_length_eq_zero hvl
                            subst hds0; subst hvs0
                            refine ⟨val, p1, ws, w1, ?_⟩
                            simp
                      obtain ⟨val', d1, zs, z1, z2⟩ := hnew
                      refine ⟨val', DRep.mono hlater.keeps _ _ d1, ?_, fun t u hu => ?_⟩
                      · rw [z1, z2]; simp; omega
                      · rw [z1, List.getElem?_toArray, z2] at hu
                        rw [Nat.zero_add, List.getElem?_toArray, hget]
                        have hlt : (ws.take off).length = off := by simp; omega
                        rw [List.append_assoc, List.getElem?_append, hlt] at hu
                        have hold : ∀ s v, ws[s]? = some v → arr[j * sz + s]? = some v := fun s v hs => by
                          have := p3 s v (by rw [w1, List.getElem?_toArray]; exact hs)
                          simpa using this
                        by_cases k1 : t < off
                        · rw [if_pos k1, List.getElem?_take, if_pos k1] at hu
                          rw [if_pos (by omega)]
                          exact hold t u hu
                        · rw [if_neg k1, List.getElem?_append, hvl] at hu
                          rw [if_neg (by omega)]
                          by_cases k2 : t - off < n
                          · rw [if_pos k2] at hu
                            rw [if_pos (by omega), show j * sz + t - (j * sz + off) = t - off by omega]
                            exact hu
                          · rw [if_neg k2, List.getElem?_drop, show off + n + (t - off - n) = t by omega] at hu
                            rw [if_neg (by omega)]
                            exact hold t u hu
                    · rw [if_neg hkj] at hk
                      obtain ⟨val', d1, d2, d3⟩ := inArr_get 0 xs k y q6 hk
                      refine ⟨val', DRep.mono hlater.keeps _ _ d1, d2, fun t u hu => ?_⟩
                      have h3 := d3 t u hu
                      rw [Nat.zero_add] at h3 ⊢
                      rw [List.getElem?_toArray, hget]
                      have ht : t < sz := by rw [← d2]; exact (Array.getElem?_eq_some_iff.1 hu).1
                      rcases Nat.lt_or_ge k j with kj | kj
                      · have : (k + 1) * sz ≤ j * sz := Nat.mul_le_mul_right _ (by omega)
                        rw [Nat.add_mul, Nat.one_mul] at this
                        rw [if_pos (by omega)]; exact h3
                      · have : (j + 1) * sz ≤ k * sz := Nat.mul_le_mul_right _ (by omega)
                        rw [Nat.add_mul, Nat.one_mul] at this
                        rw [if_neg (by omega), if_neg (by omega)]; exact h3⟩)
                have hall := Step.trans hs1 hst.2 (fun _ h => h)
                refine .inr (.inl ⟨_, ?_, g, hst.1.mono fun n => .inl, hall.mono fun q hq => ?_, trivial, fun q hq => by cases hq⟩)
                · simp only [execOp, ho, Sem.run_bind, ea, hrun, Result.andThen_ok, Sem.run_pure]
                · rcases hq with hq | hq
                  · exact hq.elim
                  · simp only [keysOf, List.mem_cons]; exact .inl hq
      | _ => rw [hy] at hr2; cases hr2
  | _ => cases hr2
end
end Go.V

set_option linter.unusedVariables false
set_option linter.unusedSimpArgs false
namespace Go.V

/-- two lists, element by element -/
inductive All2 {α β : Type} (R : α → β → Prop) : List α → List β → Prop where
  | nil : All2 R [] []
  | cons {x : α} {y : β} {l : List α} {m : List β} : R x y → All2 R l m → All2 R (x :: l) (y :: m)
theorem All2.imp {α β : Type} {R S : α → β → Prop} (h : ∀ x y, R x y → S x y) : ∀ {l : List α} {m : List β}, All2 R l m → All2 S l m
  | _, _, .nil => .nil
  | _, _, .cons hx hl => .cons (h _ _ hx) (hl.imp h)

theorem All2.get_left {α β : Type} {R : α → β → Prop} : ∀ {l : List α} {m : List β} {x : α}, All2 R l m → x ∈ l → ∃ y, R x y
  | _, _, _, .cons hx hl, h => by
    rcases List.mem_cons.1 h with e | h
    · subst e; exact ⟨_, hx⟩
    · exact hl.get_left h

/-! ### zero values -/
theorem isZero_rep {c : Cx} {a : AV} {v : Value} (h : isZero a v = true) : VRep c a v ∧ v.oneCell' = true ∧ a.names = [] := by
  unfold isZero at h
  split at h <;> first | (cases h; done) | skip
  case h_1 =>
    simp only [Bool.and_eq_true, beq_iff_eq] at h
    obtain ⟨h1, h2⟩ := h; subst h1; subst h2; exact ⟨rfl, rfl, rfl⟩
  case h_2 => simp only [beq_iff_eq] at h; subst h; exact ⟨rfl, rfl, rfl⟩
  case h_3 => simp only [beq_iff_eq] at h; subst h; exact ⟨(congrArg Value.string (str_ext _)).symm, rfl, rfl⟩
  all_goals exact ⟨rfl, rfl, rfl⟩
theorem isZeros_rep {c : Cx} : ∀ {l : List AV} {vs : List Value}, isZeros l vs = true → VReps c l vs ∧ (∀ u ∈ vs, u.oneCell' = true) ∧ namesL l = []
  | [], [], _ => ⟨rfl, by simp, rfl⟩
  | [], _ :: _, h => by cases h
  | _ :: _, [], h => by cases h
  | a :: l, v :: vs, h => by
    simp only [isZeros, Bool.and_eq_true] at h
    obtain ⟨h1, h2, h3⟩ := isZero_rep (c := c) h.1
    obtain ⟨k1, k2, k3⟩ := isZeros_rep (c := c) h.2
    refine ⟨⟨v, vs, rfl, h1, k1⟩, ?_, ?_⟩
    · intro u hu
      rcases List.mem_cons.1 hu with e | hu
      · subst e; exact h2
      · exact k2 u hu
    · show a.names ++ namesL l = []
      rw [h3, k3]; rfl

theorem zeroOf_info {P : Program} {t : Nat} {l : List AV} (h : zeroOf P t = some l) : ∃ i z, P.info? t = some i ∧ i.zero = some z ∧ isZeros l z.cells.toList = true ∧ z.cells.size = i.size := by
  unfold zeroOf at h
  cases hi : P.info? t with
  | none => rw [hi] at h; cases h
  | some i =>
    rw [hi] at h
    dsimp only at h
    cases hz : i.zero with
    | none => rw [hz] at h; cases h
    | some z =>
      rw [hz] at h
      dsimp only at h
      cases ha : zeroAV P 20 t with
      | none => rw [ha] at h; cases h
      | some l' =>
        rw [ha] at h
        dsimp only at h
        split at h
        · rename_i hc
          injection h with h; subst h
          simp only [Bool.and_eq_true, beq_iff_eq] at hc
          exact ⟨i, z, rfl, hz, hc.1, hc.2⟩
        · cases h

section
variable {gl : GlT} {P : Program} {o : Oper} {a : Act} {w : World} {g : Gh} {ob : Objs} {U : Nat → Prop} {fr : Fr} {base W : Nat} {r : R}

theorem push_alloc (w : World) (X : Obj) : (w.alloc X).heap = w.heap.push X := rfl
theorem heap_push (w : World) (X : Obj) : (w.alloc X).heap[w.heap.size]? = some X := by rw [push_alloc, Array.getElem?_push, if_pos rfl]

/-- a new box -/
theorem done_box (h : Here gl a w g ob U fr) (hb : ∀ n, base ≤ n → n < base + W → ¬U n) (hW : 1 ≤ W) {cs : List AV} {vs : List Value} {t : TypeId} (hv : VReps (cx w g ob) cs vs) (h1 : ∀ u ∈ vs, u.oneCell' = true) (hn : NamesIn U (namesL cs)) :
    Done w g ob U base W ⟨.ptr base 0, [(base, some (.box cs))], []⟩ (.pointer (some ⟨w.heap.size, 0, none⟩)) (w.alloc (.cells vs.toArray t)) := by
  have hbase : ¬U base := hb base (Nat.le_refl _) (by omega)
  have hl := fresh_later h.good base 0 hbase (.box cs) (.cells vs.toArray t) (push_alloc w _)
  obtain ⟨k1, k2⟩ := fresh_step (w' := w.alloc (.cells vs.toArray t)) h.good base 0 hbase (.box cs) (.cells vs.toArray t) (push_alloc w _) rfl rfl rfl hn
    ⟨w.heap.size, t, vs, by simp [cx, ghSet], heap_push w _, h1, VReps.mono hl cs vs hn hv⟩
  refine ⟨_, k1.mono fun n hn => ?_, k2.mono fun _ h => h.elim, ⟨w.heap.size, by simp [cx, ghSet], rfl⟩, fun n hn => ?_⟩
  · rcases hn with hn | hn
    · exact .inl hn
    · exact .inr (by omega)
  · have : n = base := by simpa [AV.names] using hn
    exact .inr (by omega)

theorem ok_alloc (h : Here gl a w g ob U fr) (hb : ∀ n, base ≤ n → n < base + W → ¬U n) (hW : 1 ≤ W) {t : Nat} {z : List AV} (ho : o.op = .alloc t) (hz : zeroOf P t = some z)
    (hr : (some ⟨.ptr base 0, [(base, some (.box z))], []⟩ : Option R) = some r) : Runs P o a w (Done w g ob U base W r) := by
  injection hr with hr; subst hr
  obtain ⟨i, zv, hi, hzv, hzs, _⟩ := zeroOf_info hz
  obtain ⟨k1, k2, k3⟩ := isZeros_rep (c := cx w g ob) hzs
  refine .inl ⟨.pointer (some ⟨w.heap.size, 0, none⟩), w.alloc (.cells zv.cells t), ?_, ?_⟩
  · simp only [execOp, ho, Instr.alloc, Sem.run_bind, zeroValue, run_typeInfo w hi, Result.andThen_ok, hzv, Sem.run_pure, newVar, newRow, newObj, Sem.run]
    rfl
  · have := done_box (W := W) (t := t) h hb hW k1 k2 (by rw [k3]; intro q hq; cases hq)
    rw [Array.toArray_toList] at this
    exact this

theorem ok_box (h : Here gl a w g ob U fr) (hb : ∀ n, base ≤ n → n < base + W → ¬U n) (hW : 1 ≤ W) {t t1 : Nat} {x : Operand} {x' : Opd} (ho : o.op = .box t x) (h1 : opd gl P t1 x = some x')
    (hr : need (x'.ev fr).single (some ⟨.ptr base 0, [(base, some (.box (x'.ev fr).cells))], []⟩ : Option R) = some r) : Runs P o a w (Done w g ob U base W r) := by
  have e1 := h.opd h1
  have n1 := h.opdn h1
  obtain ⟨hs, hr2⟩ := need_some hr
  injection hr2 with hr2; subst hr2
  obtain ⟨vs, c1, c2, c3⟩ := VRep.cells e1 hs
  refine .inl ⟨.pointer (some ⟨w.heap.size, 0, none⟩), w.alloc (.cells (a.eval x).cells t), ?_, ?_⟩
  · simp only [execOp, ho, Instr.box, Sem.run_bind, Result.andThen_ok, Sem.run_pure, newVar, newRow, newObj, Sem.run]
    rfl
  · rw [c1]
    exact done_box (W := W) (t := t) h hb hW c2 c3 (fun q hq => n1 q (cells_names q hq))

/-! ### filling -/
def putV (arr : Array Value) (off : Nat) : List Value → Array Value
  | [] => arr
  | v :: l => putV (arr.setIfInBounds off v) (off + 1) l
theorem putV_fold (off : Nat) : ∀ (vs : List Value) (k : Nat) (cells : Array Value), (vs.zipIdx k).foldl (fun cs (c, j) => cs.setIfInBounds (off + j) c) cells = putV cells (off + k) vs
  | [], k, cells => rfl
  | v :: vs, k, cells => by
    rw [List.zipIdx_cons, List.foldl_cons, putV_fold off vs (k + 1)]
    rfl
theorem putV_fold' (off : Nat) (vs : List Value) (cells : Array Value) : vs.toArray.zipIdx.foldl (fun cs (c, j) => cs.setIfInBounds (off + j) c) cells = putV cells off vs := by
  rw [← Array.foldl_toList]
  have : vs.toArray.zipIdx.toList = vs.zipIdx := by simp
  rw [this]
  exact putV_fold off vs 0 cells
theorem putV_size : ∀ (vs : List Value) (off : Nat) (cells : Array Value), (putV cells off vs).size = cells.size
  | [], off, cells => rfl
  | v :: vs, off, cells => by unfold putV; rw [putV_size vs]; simp
theorem putV_get : ∀ (vs : List Value) (off : Nat) (cells : Array Value) (i : Nat), off + vs.length ≤ cells.size → (putV cells off vs)[i]? = if off ≤ i ∧ i < off + vs.length then vs[i - off]? else cells[i]?
  | [], off, cells, i, _ => by rw [if_neg (fun hh => by simp at hh; omega)]; rfl
  | v :: vs, off, cells, i, h => by
    unfold putV
    simp only [List.length_cons] at h ⊢
    rw [putV_get vs (off + 1) _ i (by simp; omega), Array.getElem?_setIfInBounds]
    by_cases h1 : off + 1 ≤ i ∧ i < off + 1 + vs.length
    · rw [if_pos h1, if_pos (by omega), show i - off = (i - (off + 1)) + 1 by omega, List.getElem?_cons_succ]
    · rw [if_neg h1]
      by_cases h2 : off = i
      · subst h2
        rw [if_pos rfl, if_pos (by omega), if_pos (by omega)]
        simp
      · rw [if_neg h2, if_neg (by omega)]

theorem putV_reps {c : Cx} : ∀ {l : List AV} {vs : List Value} (off : Nat) {cs : List AV} {arr : Array Value}, VReps c l vs → VReps c cs arr.toList → VReps c (putCells cs off l) (putV arr off vs).toList
  | [], vs, off, cs, arr, h, k => by have h' : vs = [] := h; subst h'; exact k
  | v :: l, vs, off, cs, arr, h, k => by
    obtain ⟨u, vs', rfl, h1, h2⟩ := h
    refine putV_reps (off + 1) h2 ?_
    rw [Array.toList_setIfInBounds]
    exact VReps.set off v u k h1
theorem putV_one : ∀ (vs : List Value) (off : Nat) (arr : Array Value), (∀ u ∈ vs, u.oneCell' = true) → (∀ u ∈ arr.toList, u.oneCell' = true) → ∀ u ∈ (putV arr off vs).toList, u.oneCell' = true
  | [], off, arr, _, h => h
  | v :: vs, off, arr, h1, h2 => by
    unfold putV
    refine putV_one vs (off + 1) _ (fun u hu => h1 u (List.mem_cons_of_mem _ hu)) ?_
    intro u hu
    rw [Array.toList_setIfInBounds] at hu
    rcases List.mem_or_eq_of_mem_set hu with hu | hu
    · exact h2 u hu
    · subst hu; exact h1 _ (List.mem_cons_self ..)
theorem putCells_length : ∀ (l cs : List AV) (off : Nat), (putCells cs off l).length = cs.length
  | [], cs, off => rfl
  | v :: l, cs, off => by unfold putCells; rw [putCells_length l]; simp
theorem putCells_names {U : Nat → Prop} : ∀ (l cs : List AV) (off : Nat), NamesIn U (namesL l) → NamesIn U (namesL cs) → NamesIn U (namesL (putCells cs off l))
  | [], cs, off, _, h => h
  | v :: l, cs, off, h1, h2 => by
    refine putCells_names l _ (off + 1) (fun q hq => h1 q (List.mem_append.2 (.inr hq))) fun q hq => ?_
    obtain ⟨z, hz, hqz⟩ := namesL_iff.1 hq
    rcases List.mem_or_eq_of_mem_set hz with hz | hz
    · exact h2 q (namesL_mem hz hqz)
    · subst hz; exact h1 q (List.mem_append.2 (.inl hqz))

theorem fill_parts (h : Here gl a w g ob U fr) (place : Nat → Option (Nat × Nat)) : ∀ (ps : List (Nat × Operand)) (l : List (Nat × Nat × Opd)),
    All2 (fun p q => place p.1 = some (q.1, q.2.1) ∧ ∃ t, opd gl P t p.2 = some q.2.2) ps l →
    ∀ (cs cs' : List AV) (arr : Array Value), fillParts fr cs l = some cs' → VReps (cx w g ob) cs arr.toList → (∀ u ∈ arr.toList, u.oneCell' = true) → NamesIn U (namesL cs) →
    ∃ arr', Instr.fill place arr (ps.map fun p => (p.1, a.eval p.2)) = some arr' ∧ VReps (cx w g ob) cs' arr'.toList ∧ (∀ u ∈ arr'.toList, u.oneCell' = true) ∧ NamesIn U (namesL cs')
  | [], _, hf, cs, cs', arr, hl, hv, h1, hn => by
    cases hf
    injection hl with hl; subst hl
    exact ⟨arr, rfl, hv, h1, hn⟩
  | p :: ps, _, hf, cs, cs', arr, hl, hv, h1, hn => by
    cases hf with
    | cons hp hf =>
      rename_i q l
      obtain ⟨hpl, t, hx⟩ := hp
      obtain ⟨off, n, x⟩ := q
      obtain ⟨hc, hl2⟩ := need_some hl
      simp only [Bool.and_eq_true, decide_eq_true_eq] at hc
      obtain ⟨hs, hcn, hle⟩ := hc
      obtain ⟨vs, c1, c2, c3⟩ := VRep.cells (h.opd hx) hs
      have hvl : vs.length = n := by rw [VReps.length c2]; exact hcn
      have harr : arr.size = cs.length := by rw [← VReps.length hv, Array.length_toList]
      obtain ⟨arr', k1, k2, k3, k4⟩ := fill_parts h place ps l hf (putCells cs off (x.ev fr).cells) cs' (putV arr off vs) hl2 (putV_reps off c2 hv) (putV_one vs off arr c3 h1)
        (putCells_names _ _ _ (fun q hq => h.opdn hx q (cells_names q hq)) hn)
      refine ⟨arr', ?_, k2, k3, k4⟩
      rw [List.map_cons]
      unfold Instr.fill
      simp only [hpl, c1]
      rw [if_neg (by simp; omega), putV_fold']
      exact k1

theorem allSome_forall {α β : Type} {f : α → Option β} : ∀ {l : List α} {r : List β}, allSome f l = some r → All2 (fun x y => f x = some y) l r
  | [], r, h => by injection h with h; subst h; exact .nil
  | x :: l, r, h => by
    unfold allSome at h
    cases h1 : f x with
    | none => rw [h1] at h; cases h
    | some y => cases h2 : allSome f l with
      | none => rw [h1, h2] at h; cases h
      | some q => rw [h1, h2] at h; injection h with h; subst h; exact .cons h1 (allSome_forall h2)

theorem ok_build (h : Here gl a w g ob U fr) {t : Nat} {ps : Array (Nat × Operand)} {z : List AV} {l : List (Nat × Nat × Opd)} (ho : o.op = .build t ps) (hg : isAggT P t = some true) (hz : zeroOf P t = some z) (hp : parts gl P t ps.toList = some l)
    (hr : buildR (fillParts fr z l) = some r) : Runs P o a w (Done w g ob U base W r) := by
  obtain ⟨cs', hf, hr2⟩ := obind_eq hr
  injection hr2 with hr2; subst hr2
  obtain ⟨i, zv, hi, hzv, hzs, _⟩ := zeroOf_info hz
  obtain ⟨k1, k2, k3⟩ := isZeros_rep (c := cx w g ob) hzs
  have hall := allSome_forall hp
  have key : ∃ arr', P.built t (ps.map fun (i, x) => (i, a.eval x)).toList = some arr' ∧ VReps (cx w g ob) cs' arr'.toList ∧ (∀ u ∈ arr'.toList, u.oneCell' = true) ∧ NamesIn U (namesL cs') := by
    have hmap : (ps.map fun (i, x) => (i, a.eval x)).toList = ps.toList.map fun p => (p.1, a.eval p.2) := by simp
    rw [hmap]
    cases hu : P.underlying t with
    | none =>
      exfalso
      unfold zeroOf at hz; rw [hi] at hz; dsimp only at hz; rw [hzv] at hz; dsimp only at hz
      unfold zeroAV at hz
      rw [hu] at hz; cases hz
    | some d =>
      cases d with
      | struct fs =>
        have hpl : ∃ places, fs.toList.mapM (fun f : Field => (P.info? f.type).map fun i => (f.offset, i.size)) = some places ∧ ∀ (j : Nat) (f : Field) (n : Nat), fs[j]? = some f → sizeT P f.type = some n → places.toArray[j]? = some (f.offset, n) := by
          -- every field's size is known: the zero value was made of them
          have hzf : ∀ f ∈ fs.toList, ∃ n, sizeT P f.type = some n := by
            intro f hf
            unfold zeroOf at hz; rw [hi] at hz; dsimp only at hz; rw [hzv] at hz; dsimp only at hz
            unfold zeroAV at hz
            rw [hu] at hz
            dsimp only at hz
            cases ha : allSome (fun f : Field => zeroAV P 19 f.type) fs.toList with
            | none => rw [ha] at hz; cases hz
            | some zz =>
              have hfa := allSome_forall ha
              obtain ⟨y, hy⟩ : ∃ y, zeroAV P 19 f.type = some y := All2.get_left hfa hf
              unfold zeroAV at hy
              cases hi' : P.info? f.type with
              | some ii => exact ⟨ii.size, by unfold sizeT; rw [hi']; rfl⟩
              | none =>
                exfalso
                have : P.underlying f.type = none := by unfold Program.underlying; rw [hi']
                rw [this] at hy; cases hy
          have : ∀ (l : List Field), (∀ f ∈ l, ∃ n, sizeT P f.type = some n) → ∃ places, l.mapM (fun f : Field => (P.info? f.type).map fun i => (f.offset, i.size)) = some places ∧ ∀ (j : Nat) (f : Field) (n : Nat), l[j]? = some f → sizeT P f.type = some n → places[j]? = some (f.offset, n) := by
            intro l
            induction l with
            | nil => intro _; exact ⟨[], rfl, by simp⟩
            | cons f l ih =>
              intro hl
              obtain ⟨n, hn⟩ := hl f (List.mem_cons_self ..)
              obtain ⟨places, hp1, hp2⟩ := ih fun f hf => hl f (List.mem_cons_of_mem _ hf)
              obtain ⟨ii, hii, hie⟩ := Option.map_eq_some_iff.1 hn
              refine ⟨(f.offset, n) :: places, ?_, ?_⟩
              · rw [List.mapM_cons, hii, hp1]; simp [hie]
              · intro j f' n' hj hn'
                cases j with
                | zero => simp at hj; subst hj; rw [hn] at hn'; injection hn' with hn'; subst hn'; rfl
                | succ j => simpa using hp2 j f' n' (by simpa using hj) hn'
          obtain ⟨places, hp1, hp2⟩ := this fs.toList hzf
          exact ⟨places, hp1, fun j f n hj hn => by simpa using hp2 j f n (by simpa using hj) hn⟩
        obtain ⟨places, hp1, hp2⟩ := hpl
        have hfa : All2 (fun (p : Nat × Operand) (q : Nat × Nat × Opd) => (places.toArray[p.1]?) = some (q.1, q.2.1) ∧ ∃ t, opd gl P t p.2 = some q.2.2) ps.toList l := by
          refine hall.imp fun p q hpq => ?_
          rw [hu] at hpq
          dsimp only at hpq
          cases hf1 : fs[p.1]? with
          | none => rw [hf1] at hpq; cases hpq
          | some f =>
            rw [hf1] at hpq
            dsimp only at hpq
            cases hs1 : sizeT P f.type with
            | none => rw [hs1] at hpq; cases hpq
            | some n => cases ho1 : opd gl P f.type p.2 with
              | none => rw [hs1, ho1] at hpq; cases hpq
              | some x => rw [hs1, ho1] at hpq; injection hpq with hpq; subst hpq; exact ⟨hp2 p.1 f n hf1 hs1, _, ho1⟩
        obtain ⟨arr', j1, j2, j3, j4⟩ := fill_parts h (fun i => places.toArray[i]?) ps.toList l hfa z cs' zv.cells hf (by simpa using k1) (by simpa using k2) (by rw [k3]; intro q hq; cases hq)
        refine ⟨arr', ?_, j2, j3, j4⟩
        unfold Program.built
        simp only [hi, hu, hzv, hp1, j1]
      | array len e =>
        have hsz : ∃ n, sizeT P e = some n := by
          unfold zeroOf at hz; rw [hi] at hz; dsimp only at hz; rw [hzv] at hz; dsimp only at hz
          unfold zeroAV at hz
          rw [hu] at hz
          dsimp only at hz
          cases ha : zeroAV P 19 e with
          | none => rw [ha] at hz; cases hz
          | some zz =>
            unfold zeroAV at ha
            cases hi' : P.info? e with
            | some ii => exact ⟨ii.size, by unfold sizeT; rw [hi']; rfl⟩
            | none =>
              exfalso
              have : P.underlying e = none := by unfold Program.underlying; rw [hi']
              rw [this] at ha; cases ha
        obtain ⟨n, hn⟩ := hsz
        obtain ⟨ie, hie, hien⟩ := Option.map_eq_some_iff.1 hn
        have hfa : All2 (fun (p : Nat × Operand) (q : Nat × Nat × Opd) => (some (p.1 * ie.size, ie.size)) = some (q.1, q.2.1) ∧ ∃ t, opd gl P t p.2 = some q.2.2) ps.toList l := by
          refine hall.imp fun p q hpq => ?_
          rw [hu] at hpq
          dsimp only at hpq
          cases ho1 : opd gl P e p.2 with
          | none => rw [hn, ho1] at hpq; cases hpq
          | some x => rw [hn, ho1] at hpq; injection hpq with hpq; subst hpq; exact ⟨by rw [hien], _, ho1⟩
        obtain ⟨arr', j1, j2, j3, j4⟩ := fill_parts h (fun i => some (i * ie.size, ie.size)) ps.toList l hfa z cs' zv.cells hf (by simpa using k1) (by simpa using k2) (by rw [k3]; intro q hq; cases hq)
        refine ⟨arr', ?_, j2, j3, j4⟩
        unfold Program.built
        simp only [hi, hu, hzv, hie, j1]
      | _ =>
        exfalso
        unfold isAggT at hg
        rw [hu] at hg
        cases hg
  obtain ⟨arr', hb, hv, h1c, hn⟩ := key
  refine runs_val h (val := .agg arr') ?_ ?_ (mkAgg_names hn)
  · simp only [execOp, ho, Sem.run_bind, run_build w t _ arr' hb, Result.andThen_ok, Sem.run_pure]
  · have := mkAgg_rep hv h1c
    rwa [Array.toArray_toList] at this
end
end Go.V

set_option linter.unusedVariables false
set_option linter.unusedSimpArgs false
namespace Go.V

theorem fill_dense (sz : Nat) : ∀ (vs : List Value) (k : Nat) (arr : Array Value), (∀ v ∈ vs, v.cells.size = sz) → (k + vs.length) * sz ≤ arr.size →
    ∃ arr', Instr.fill (fun i => some (i * sz, sz)) arr ((vs.zipIdx k).map fun p => (p.2, p.1)) = some arr' ∧ arr'.size = arr.size ∧ (∀ i, i < k * sz → arr'[i]? = arr[i]?) ∧
      ∀ j v, vs[j]? = some v → ∀ t u, v.cells[t]? = some u → arr'[(k + j) * sz + t]? = some u
  | [], k, arr, _, _ => ⟨arr, rfl, rfl, fun _ _ => rfl, fun j v h => by simp at h⟩
  | v :: vs, k, arr, hs, hle => by
    have hv := hs v (List.mem_cons_self ..)
    simp only [List.length_cons] at hle
    have hle' : (k + 1 + vs.length) * sz ≤ arr.size := by rw [show k + 1 + vs.length = k + (vs.length + 1) by omega]; exact hle
    have hk : k * sz + sz ≤ arr.size := by
      have : (k + 1) * sz ≤ (k + 1 + vs.length) * sz := Nat.mul_le_mul_right _ (by omega)
      rw [Nat.add_mul, Nat.one_mul] at this
      omega
    obtain ⟨arr', h1, h2, h3, h4⟩ := fill_dense sz vs (k + 1) (putV arr (k * sz) v.cells.toList) (fun u hu => hs u (List.mem_cons_of_mem _ hu)) (by rw [putV_size]; exact hle')
    refine ⟨arr', ?_, by rw [h2, putV_size], fun i hi => ?_, fun j u hj t x hx => ?_⟩
    · rw [List.zipIdx_cons, List.map_cons]
      unfold Instr.fill
      dsimp only
      rw [if_neg (by simp [hv]; omega)]
      have := putV_fold' (k * sz) v.cells.toList arr
      rw [Array.toArray_toList] at this
      rw [this]
      exact h1
    · rw [h3 i (by rw [Nat.add_mul]; omega), putV_get _ _ _ _ (by rw [Array.length_toList, hv]; exact hk), if_neg (by omega)]
    · cases j with
      | zero =>
        simp at hj; subst hj
        have ht : t < sz := by rw [← hv]; exact (Array.getElem?_eq_some_iff.1 hx).1
        rw [Nat.add_zero, h3 _ (by rw [Nat.add_mul, Nat.one_mul]; omega), putV_get _ _ _ _ (by rw [Array.length_toList, hv]; exact hk), if_pos ⟨by omega, by rw [Array.length_toList, hv]; omega⟩]
        rw [show k * sz + t - k * sz = t by omega]
        simpa using hx
      | succ j =>
        have := h4 j u (by simpa using hj) t x hx
        rw [show k + (j + 1) = k + 1 + j by omega]
        exact this

theorem idx_zip {β : Type} : ∀ (l : List (Nat × β)) (k n : Nat), l.map (·.1) = List.range' k n → l = (((l.map (·.2)).zipIdx k).map fun p => (p.2, p.1))
  | [], _, _, _ => rfl
  | x :: l, k, n, h => by
    cases n with
    | zero => simp at h
    | succ n =>
      rw [List.map_cons, List.range'_succ] at h
      injection h with h1 h2
      rw [List.map_cons, List.zipIdx_cons, List.map_cons, ← idx_zip l (k + 1) n h2]
      obtain ⟨a, b⟩ := x
      dsimp only at h1 ⊢
      rw [h1]

theorem sizesOk_mem {sz : Nat} : ∀ {xs : List Data}, sizesOk sz xs = true → ∀ x ∈ xs, x.cells.length = sz
  | [], _, x, hx => by cases hx
  | y :: xs, h, x, hx => by
    simp only [sizesOk, Bool.and_eq_true, decide_eq_true_eq] at h
    rcases List.mem_cons.1 hx with e | hx
    · subst e; exact h.1
    · exact sizesOk_mem h.2 x hx

theorem DRep.size {w : World} {S : Nat → Nat → Prop} {x : Data} {v : Value} (h : DRep w S x v) : v.cells.size = x.cells.length := by
  obtain ⟨vs, e, hd, _⟩ := DRep.cells h
  rw [e, ← DReps.length hd]; simp

theorem madeCells_get {z : Array Value} {n i : Nat} (hi : i < n) (hz : 0 < z.size) : (madeCells z n)[i]? = z[i % z.size]? := by
  unfold madeCells
  have hlt : i % z.size < z.size := Nat.mod_lt _ hz
  rw [Array.getElem?_map, Array.getElem?_eq_getElem (by simpa using hi)]
  simp [hlt]

section
variable {gl : GlT} {P : Program} {o : Oper} {a : Act} {w : World} {g : Gh} {ob : Objs} {U : Nat → Prop} {fr : Fr} {base W : Nat} {r : R}

/-- a new array -/
theorem fresh_arr {w' : World} (hg : Good w g ob U) (hbase : ¬U base) {sz cap : Nat} {xs : List Data} {u : Bool} {arr : Array Value} {t : TypeId} (hw : w'.heap = w.heap.push (.cells arr t)) (hos : w'.os = w.os) (htape : w'.tape = w.tape) (hout : w'.output = w.output)
    (hs : arr.size = cap * sz) (hc : xs.length ≤ cap) (h0 : 0 < sz) (hin : InArr (cx w g ob) sz arr 0 xs) :
    Good w' (ghSet g base w.heap.size cap) ((base, some (.arr sz xs u)) :: ob) (fun o => U o ∨ o = base) ∧ Step w g ob w' (ghSet g base w.heap.size cap) ((base, some (.arr sz xs u)) :: ob) U (fun _ => False) ∧
    VRep (cx w' (ghSet g base w.heap.size cap) ((base, some (.arr sz xs u)) :: ob)) (.own base) (.slice (some ⟨w.heap.size, 0, none⟩) xs.length cap) := by
  have hl := fresh_later hg base cap hbase (.arr sz xs u) (.cells arr t) hw
  have hp : w'.heap[w.heap.size]? = some (.cells arr t) := by rw [hw, Array.getElem?_push, if_pos rfl]
  obtain ⟨k1, k2⟩ := fresh_step hg base cap hbase (.arr sz xs u) (.cells arr t) hw hos htape hout (fun q hq => by cases hq)
    (.inr ⟨w.heap.size, arr, t, by simp [cx, ghSet], hp, by simpa [cx, ghSet] using hs, by simpa [cx, ghSet] using hc, h0, InArr.mono hl.keeps sz arr 0 xs hin⟩)
  refine ⟨k1, k2, rfl, fun sz' n' hln => ?_⟩
  have : lnOf ((base, some (AObj.arr sz xs u)) :: ob) base = some (sz', n') := hln
  rw [lnOf_cons, if_pos rfl] at this
  injection this with this
  injection this with _ e2
  subst e2
  simp [ownVal, cx, ghSet]

theorem done_arr (h : Good w g ob U) (hb : ∀ n, base ≤ n → n < base + W → ¬U n) (hW : 1 ≤ W) {w' : World} {g' : Gh} {ob' : Objs} {v : Value} {rd : List Nat} {upd : Objs} (e : upd ++ ob = ob') (hk : ∀ n, False ∨ n ∈ keysOf upd → n ∈ keysOf upd)
    (hg : Good w' g' ob' (fun o => U o ∨ o = base)) (hs : Step w g ob w' g' ob' U (fun n => n ∈ keysOf upd)) (hv : VRep (cx w' g' ob') (.own base) v) : Done w g ob U base W ⟨.own base, upd, rd⟩ v w' := by
  subst e
  refine ⟨g', hg.mono fun n hn => ?_, hs, hv, fun n hn => ?_⟩
  · rcases hn with hn | hn
    · exact .inl hn
    · exact .inr (by omega)
  · have : n = base := by simpa [AV.names] using hn
    exact .inr (by omega)

theorem evL_rep (h : Here gl a w g ob U fr) {e : Nat} : ∀ {ps : List (Nat × Operand)} {l : List Opd}, allSome (fun p : Nat × Operand => opd gl P e p.2) ps = some l → VReps (cx w g ob) (evL fr l) (ps.map fun p => a.eval p.2)
  | [], l, hl => by injection hl with hl; subst hl; rfl
  | p :: ps, l, hl => by
    unfold allSome at hl
    cases h1 : Go.V.opd gl P e p.2 with
    | none => rw [h1] at hl; cases hl
    | some y => cases h2 : allSome (fun p : Nat × Operand => Go.V.opd gl P e p.2) ps with
      | none => rw [h1, h2] at hl; cases hl
      | some q => rw [h1, h2] at hl; injection hl with hl; subst hl; exact ⟨_, _, rfl, h.opd h1, evL_rep h h2⟩

theorem toDataL_rep (hg : Good w g ob U) {ob' : Objs} (hsh : Shares ob ob') : ∀ {l : List AV} {vs : List Value} {xs : List Data}, VReps (cx w g ob) l vs → allSome (AV.toData ob) l = some xs → (∀ o ∈ sharedL l, NotUniq ob' o) →
    vs.length = xs.length ∧ ∀ (j : Nat) (x : Data), xs[j]? = some x → ∃ v, vs[j]? = some v ∧ DRep w (cx w g ob').S x v
  | [], vs, xs, hv, hx, _ => by injection hx with hx; subst hx; have h' : vs = [] := hv; subst h'; exact ⟨rfl, fun j x h => by simp at h⟩
  | v :: l, vs, xs, hv, hx, hu => by
    obtain ⟨u, vs', rfl, h1, h2⟩ := hv
    unfold allSome at hx
    cases e1 : v.toData ob with
    | none => rw [e1] at hx; cases hx
    | some x => cases e2 : allSome (AV.toData ob) l with
      | none => rw [e1, e2] at hx; cases hx
      | some q =>
        rw [e1, e2] at hx
        injection hx with hx; subst hx
        obtain ⟨k1, k2⟩ := toDataL_rep hg hsh h2 e2 (fun o ho => hu o (List.mem_append.2 (.inr ho)))
        refine ⟨by simp [k1], fun j y hj => ?_⟩
        cases j with
        | zero => simp at hj; subst hj; exact ⟨u, rfl, toData_rep hg h1 e1 hsh (fun o ho => hu o (List.mem_append.2 (.inl ho)))⟩
        | succ j => simpa using k2 j y (by simpa using hj)

theorem ok_bslice (h : Here gl a w g ob U fr) (hb : ∀ n, base ≤ n → n < base + W → ¬U n) (hW : 1 ≤ W) {t e n sz : Nat} {ps : Array (Nat × Operand)} {l : List Opd} (ho : o.op = .buildSlice t n ps) (hu : P.underlying t = some (.slice e)) (hs : sizeT P e = some sz)
    (hl : allSome (fun p : Nat × Operand => opd gl P e p.2) ps.toList = some l) (hi : idxList n ps.toList = true) (hn : n * sz ≤ 1000) (h0 : 0 < sz) (hz : (zeroOf P e).isSome = true)
    (hr : bsliceR sz base (evL fr l) ob = some r) : Runs P o a w (Done w g ob U base W r) := by
  obtain ⟨xs, hxs, hr2⟩ := obind_eq hr
  obtain ⟨hsz, hr3⟩ := need_some hr2
  injection hr3 with hr3; subst hr3
  obtain ⟨zl, hzl⟩ := Option.isSome_iff_exists.1 hz
  obtain ⟨ie, z, hie, hzv, _, hzs⟩ := zeroOf_info hzl
  have hie2 : ie.size = sz := by
    obtain ⟨i', hi', he'⟩ := Option.map_eq_some_iff.1 hs
    rw [hie] at hi'; injection hi' with hi'; subst hi'; exact he'
  have hsh := shareUpd_shares ob (sharedL (evL fr l))
  obtain ⟨g1, s1⟩ := shares_step (w := w) (g := g) h.good hsh
  have hvr := evL_rep (P := P) h hl
  obtain ⟨hlen, hget⟩ := toDataL_rep h.good hsh hvr hxs (fun q hq => shareUpd_not ob _ q hq)
  have hidx : ps.toList.map (·.1) = List.range' 0 n := by
    unfold idxList at hi
    rw [beq_iff_eq] at hi
    rw [hi, List.range_eq_range']
  have hpn : ps.toList.length = n := by have := congrArg List.length hidx; simpa using this
  have hxn : xs.length = n := by rw [← hlen, List.length_map, hpn]
  have hcell : ∀ v ∈ ps.toList.map (fun p => a.eval p.2), v.cells.size = sz := by
    intro v hv
    obtain ⟨j, hj⟩ := List.getElem?_of_mem hv
    have hjl : j < xs.length := by rw [← hlen]; exact (List.getElem?_eq_some_iff.1 hj).1
    obtain ⟨v', hv', hd⟩ := hget j _ (List.getElem?_eq_getElem hjl)
    rw [hj] at hv'; injection hv' with hv'; subst hv'
    rw [hd.size]
    exact sizesOk_mem hsz _ (List.getElem_mem hjl)
  have hmap : (ps.map fun (i, x) => (i, a.eval x)).toList = (((ps.toList.map fun p => a.eval p.2).zipIdx 0).map fun p => (p.2, p.1)) := by
    have h1 : (ps.map fun (i, x) => (i, a.eval x)).toList = ps.toList.map fun p => (p.1, a.eval p.2) := by simp
    rw [h1]
    have h2 := idx_zip (ps.toList.map fun p => (p.1, a.eval p.2)) 0 n (by rw [List.map_map]; exact hidx)
    rw [List.map_map] at h2
    exact h2
  have hzero : 0 < z.cells.size := by rw [hzs, hie2]; exact h0
  have hrun : ∃ arr, (Instr.buildSlice t n (ps.map fun (i, x) => (i, a.eval x))).run P w = .ok (.slice (some ⟨w.heap.size, 0, none⟩) n n) (w.alloc (.cells arr e)) ∧ arr.size = n * sz ∧
      ∀ j v, (ps.toList.map fun p => a.eval p.2)[j]? = some v → ∀ t u, v.cells[t]? = some u → arr[j * sz + t]? = some u := by
    by_cases hn0 : n * sz = 0
    · have hn' : n = 0 := by
        rcases Nat.eq_zero_or_pos n with q | q
        · exact q
        · have := Nat.mul_pos q h0; omega
      subst hn'
      have hps : ps = #[] := by
        have := List.eq_nil_of_length_eq_zero hpn
        exact Array.toList_eq_nil_iff.1 this
      subst hps
      refine ⟨(Array.range 0).map (fun _ => default), ?_, by simp, fun j v hj => by simp at hj⟩
      simp [Instr.buildSlice, run_underlying hu, run_sizeOf hs, newRow, newObj, Instr.fill, Sem.run]
    · obtain ⟨arr', f1, f2, _, f4⟩ := fill_dense sz (ps.toList.map fun p => a.eval p.2) 0 ((Array.range (n * sz)).map (z.cells[· % z.cells.size]!)) hcell (by simp; exact Nat.le_of_eq (by rw [← hpn]; simp))
      refine ⟨arr', ?_, by rw [f2]; simp, fun j v hj t u hu => by have := f4 j v hj t u hu; rwa [Nat.zero_add] at this⟩
      have hq1 : ¬ n * sz > 2 ^ 24 := by omega
      rw [← hmap] at f1
      have f1' := f1
      simp [Instr.buildSlice, run_underlying hu, run_sizeOf hs, zeroValue, typeInfo, hie, hzv, hq1, hn0, newRow, newObj, Sem.run] at f1' ⊢
      rw [f1']
      simp [newObj, Sem.run]
  obtain ⟨arr, hrun, hasz, hacell⟩ := hrun
  have hbase : ¬U base := hb base (Nat.le_refl _) (by omega)
  obtain ⟨k1, k2, k3⟩ := fresh_arr (w' := w.alloc (.cells arr e)) (u := true) (sz := sz) (cap := n) (xs := xs) (t := e) g1 hbase (push_alloc w _) rfl rfl rfl hasz (Nat.le_of_eq hxn) h0
    (inArr_of 0 xs fun j x hj => by
      obtain ⟨v, hv, hd⟩ := hget j x hj
      exact ⟨v, hd, hcell v (List.mem_of_getElem? hv), fun t u hu => by rw [Nat.zero_add]; exact hacell j v hv t u hu⟩)
  refine .inl ⟨.slice (some ⟨w.heap.size, 0, none⟩) n n, w.alloc (.cells arr e), ?_, done_arr h.good hb hW rfl (fun n hn => hn.resolve_left id) k1 ((Step.trans s1 k2 fun _ h => h).mono fun q hq => by rcases hq with hq | hq <;> exact hq.elim) (by rw [hxn] at k3; exact k3)⟩
  simp only [execOp, ho, Sem.run_bind, hrun, Result.andThen_ok, Sem.run_pure]

theorem zeroD_rep {e sz : Nat} {zd : Data} {c : Cx} (hz : zeroD P e = some zd) (hs : sizeT P e = some sz) : ∃ i z, P.info? e = some i ∧ i.zero = some z ∧ z.cells.size = sz ∧ i.size = sz ∧ ∃ v, DRep c.w c.S zd v ∧ v.cells = z.cells := by
  unfold zeroD at hz
  cases h1 : zeroOf P e with
  | none => rw [h1] at hz; cases hz
  | some l =>
    obtain ⟨i, z, hi, hzv, hzs, hzz⟩ := zeroOf_info h1
    have hisz : i.size = sz := by
      obtain ⟨i', hi', he'⟩ := Option.map_eq_some_iff.1 hs
      rw [hi] at hi'; injection hi' with hi'; subst hi'; exact he'
    refine ⟨i, z, hi, hzv, by rw [hzz, hisz], hisz, ?_⟩
    obtain ⟨k1, k2, k3⟩ := isZeros_rep (c := c) hzs
    have cellD : ∀ {l : List AV} {vs : List Value}, isZeros l vs = true → ∀ {ds : List Data}, allSome (AV.toD ([] : Objs)) l = some ds → DReps c.w c.S ds vs := by
      intro l
      induction l with
      | nil => intro vs hv ds hd; cases vs with
        | nil => injection hd with hd; subst hd; rfl
        | cons _ _ => cases hv
      | cons x l ih =>
        intro vs hv ds hd
        cases vs with
        | nil => cases hv
        | cons v vs =>
          simp only [isZeros, Bool.and_eq_true] at hv
          unfold allSome at hd
          cases e1 : x.toD ([] : Objs) with
          | none => rw [e1] at hd; cases hd
          | some y => cases e2 : allSome (AV.toD ([] : Objs)) l with
            | none => rw [e1, e2] at hd; cases hd
            | some q =>
              rw [e1, e2] at hd
              injection hd with hd; subst hd
              refine ⟨v, vs, rfl, ?_, ih hv.2 e2⟩
              have hx := isZero_rep (c := c) hv.1
              cases x with
              | d y' => injection e1 with e1; subst e1; exact hx.1
              | nils k => injection e1 with e1; subst e1; exact ⟨none, 0, hx.1, Nat.le_refl _, fun hh => absurd rfl hh⟩
              | lim k xs => obtain ⟨hz1, _, _⟩ := hx; have := hv.1; simp [isZero] at this
              | nn nb k xs => have := hv.1; simp [isZero] at this
              | own q => have := hv.1; simp [isZero] at this
              | _ => cases e1
    rw [h1] at hz
    cases ha : isAggT P e with
    | none => rw [ha] at hz; cases l with
      | nil => cases hz
      | cons x l => cases l <;> cases hz
    | some agg =>
      rw [ha] at hz
      cases agg with
      | true =>
        dsimp only at hz
        cases hd : allSome (AV.toD ([] : Objs)) l with
        | none => rw [hd] at hz; cases hz
        | some ds =>
          rw [hd] at hz
          injection hz with hz; subst hz
          exact ⟨.agg z.cells, ⟨z.cells.toList, by rw [Array.toArray_toList], k2, cellD hzs hd⟩, rfl⟩
      | false =>
        cases l with
        | nil => cases hz
        | cons x l => cases l with
          | cons _ _ => cases hz
          | nil =>
            dsimp only at hz
            have hd : allSome (AV.toD ([] : Objs)) [x] = some [zd] := by unfold allSome; rw [hz]; rfl
            obtain ⟨v, vs', e1, e2, e3⟩ := cellD hzs hd
            have e3' : vs' = [] := e3
            subst e3'
            refine ⟨v, e2, ?_⟩
            rw [cells_single v (k2 v (by rw [e1]; simp))]
            apply Array.ext'
            rw [e1]

theorem ok_mkslice (h : Here gl a w g ob U fr) (hb : ∀ n, base ≤ n → n < base + W → ¬U n) (hW : 1 ≤ W) {t e sz bytes t1 t2 : Nat} {x y : Operand} {x' y' : Opd} {zd : Data} (ho : o.op = .makeSlice t x y) (hu : P.underlying t = some (.slice e)) (hs : sizeT P e = some sz) (hby : bytesT P e = some bytes)
    (hz : zeroD P e = some zd) (h0 : 0 < sz) (hb0 : 0 < bytes) (h1 : opd gl P t1 x = some x') (h2 : opd gl P t2 y = some y') (hr : mksliceR sz bytes base zd (x'.ev fr) (y'.ev fr) = some r) : Runs P o a w (Done w g ob U base W r) := by
  have e1 := h.opd h1
  have e2 := h.opd h2
  generalize x'.ev fr = v1 at hr e1
  generalize y'.ev fr = v2 at hr e2
  cases v1 with
  | d p => cases p with
    | int k n => cases v2 with
      | d q => cases q with
        | int k' m =>
          obtain ⟨hc, hr2⟩ := need_some hr
          injection hr2 with hr2; subst hr2
          obtain ⟨rfl, hn0, hnb, hzl⟩ := of_decide_eq_true hc
          obtain ⟨i, z, hi, hzv, hzsz, hisz, v, hd, hvc⟩ := zeroD_rep (c := cx w g ob) hz hs
          have hib : i.bytes = bytes := by
            obtain ⟨i', hi', he'⟩ := Option.map_eq_some_iff.1 hby
            rw [hi] at hi'; injection hi' with hi'; subst hi'; exact he'
          have ea : a.eval x = .int k n := e1
          have eb : a.eval y = .int k' n := e2
          have hle : n * 1 ≤ n * (bytes : Int) := Int.mul_le_mul_of_nonneg_left (by omega) hn0
          have hrun := run_make (P := P) w t e i z hu hi hzv k k' n n hn0 (Int.le_refl _) (by rw [hib, Int.mul_comm]; omega) (by omega)
          rw [hisz] at hrun
          have hbase : ¬U base := hb base (Nat.le_refl _) (by omega)
          obtain ⟨k1, k2, k3⟩ := fresh_arr (w' := w.alloc (.cells (madeCells z.cells (n.toNat * sz)) e)) (u := true) (sz := sz) (cap := n.toNat) (xs := List.replicate n.toNat zd) (t := e) h.good hbase (push_alloc w _) rfl rfl rfl (size_madeCells _ _) (by simp) h0
            (inArr_of 0 _ fun j x hj => by
              have hjl : j < n.toNat := by have := (List.getElem?_eq_some_iff.1 hj).1; simpa using this
              have hx : x = zd := by
                have := List.mem_of_getElem? hj
                exact (List.mem_replicate.1 this).2
              subst hx
              refine ⟨v, hd, by rw [hvc, hzsz], fun t u hu => ?_⟩
              rw [hvc] at hu
              have ht : t < sz := by rw [← hzsz]; exact (Array.getElem?_eq_some_iff.1 hu).1
              have hlt : j * sz + t < n.toNat * sz := by
                have : (j + 1) * sz ≤ n.toNat * sz := Nat.mul_le_mul_right _ (by omega)
                rw [Nat.add_mul, Nat.one_mul] at this
                omega
              rw [Nat.zero_add, madeCells_get hlt (by omega), hzsz, Nat.add_comm, Nat.add_mul_mod_self_right, Nat.mod_eq_of_lt ht]
              exact hu)
          rw [List.length_replicate] at k3
          refine .inl ⟨_, _, ?_, done_arr h.good hb hW rfl (fun n hn => hn.resolve_left id) k1 (k2.mono fun _ h => h.elim) k3⟩
          simp only [execOp, ho, Sem.run_bind, ea, eb, hrun, Result.andThen_ok, Sem.run_pure]
        | _ => cases hr
      | _ => cases hr
    | _ => cases hr
  | _ => cases hr

theorem ok_mkmap (h : Here gl a w g ob U fr) (hb : ∀ n, base ≤ n → n < base + W → ¬U n) (hW : 1 ≤ W) {t : Nat} (ho : o.op = .makeMap t none)
    (hr : (some ⟨.mref base, [(base, some (.map []))], []⟩ : Option R) = some r) : Runs P o a w (Done w g ob U base W r) := by
  injection hr with hr; subst hr
  have hbase : ¬U base := hb base (Nat.le_refl _) (by omega)
  obtain ⟨k1, k2⟩ := fresh_step (w' := w.alloc (.map #[] 0)) h.good base 0 hbase (.map []) (.map #[] 0) (push_alloc w _) rfl rfl rfl (fun q hq => by cases hq)
    ⟨w.heap.size, #[], 0, by simp [cx, ghSet], heap_push w _, rfl⟩
  refine .inl ⟨.map (some w.heap.size), w.alloc (.map #[] 0), ?_, _, k1.mono fun n hn => ?_, k2.mono fun _ h => h.elim, ⟨w.heap.size, by simp [cx, ghSet], rfl⟩, fun n hn => ?_⟩
  · simp only [execOp, ho, Option.map_none, Sem.run_bind]
    rfl
  · rcases hn with hn | hn
    · exact .inl hn
    · exact .inr (by omega)
  · have : n = base := by simpa [AV.names] using hn
    exact .inr (by omega)
end
end Go.V

set_option linter.unusedVariables false
set_option linter.unusedSimpArgs false
namespace Go.V

/-- the cells of some elements, one after the other -/
theorem news_of {w : World} {S : Nat → Nat → Prop} {sz : Nat} : ∀ (ys : List Data) (f : Nat → Option Value),
    (∀ j x, ys[j]? = some x → ∃ v, DRep w S x v ∧ v.cells.size = sz ∧ ∀ t u, v.cells[t]? = some u → f (j * sz + t) = some u) →
    ∃ news : List Value, news.length = ys.length * sz ∧ (∀ i u, news[i]? = some u → f i = some u) ∧ (∀ u ∈ news, u.oneCell' = true) ∧
      ∀ j x, ys[j]? = some x → ∃ v, DRep w S x v ∧ v.cells.size = sz ∧ ∀ t u, v.cells[t]? = some u → news[j * sz + t]? = some u
  | [], f, _ => ⟨[], by simp, by simp, by simp, fun j x h => by simp at h⟩
  | y :: ys, f, h => by
    obtain ⟨v, h1, h2, h3⟩ := h 0 y rfl
    obtain ⟨news, n1, n2, n3, n4⟩ := news_of (w := w) (S := S) (sz := sz) ys (fun i => f (sz + i)) fun j x hj => by
      obtain ⟨v', k1, k2, k3⟩ := h (j + 1) x (by simpa using hj)
      refine ⟨v', k1, k2, fun t u hu => ?_⟩
      have := k3 t u hu
      rw [Nat.add_mul, Nat.one_mul, Nat.add_comm (j * sz) sz, Nat.add_assoc] at this
      exact this
    obtain ⟨vs, c1, c2, c3⟩ := DRep.cells h1
    have hvl : vs.length = sz := by rw [← h2, c1]; simp
    refine ⟨vs ++ news, ?_, ?_, ?_, ?_⟩
    · rw [List.length_append, List.length_cons, hvl, n1, Nat.add_mul, Nat.one_mul, Nat.add_comm]
    · intro i u hu
      rw [List.getElem?_append, hvl] at hu
      split at hu
      · have := h3 i u (by rw [c1, List.getElem?_toArray]; exact hu)
        simpa using this
      · have := n2 (i - sz) u hu
        rwa [show sz + (i - sz) = i by omega] at this
    · intro u hu
      rcases List.mem_append.1 hu with hu | hu
      · exact c3 u hu
      · exact n3 u hu
    · intro j x hj
      cases j with
      | zero =>
        simp at hj; subst hj
        refine ⟨v, h1, h2, fun t u hu => ?_⟩
        have ht : t < sz := by rw [← h2]; exact (Array.getElem?_eq_some_iff.1 hu).1
        rw [Nat.zero_mul, Nat.zero_add, List.getElem?_append, hvl, if_pos ht]
        rw [c1, List.getElem?_toArray] at hu
        exact hu
      | succ j =>
        obtain ⟨v', k1, k2, k3⟩ := n4 j x (by simpa using hj)
        refine ⟨v', k1, k2, fun t u hu => ?_⟩
        rw [Nat.add_mul, Nat.one_mul, List.getElem?_append, hvl, if_neg (by omega), show j * sz + sz + t - sz = j * sz + t by omega]
        exact k3 t u hu

section
variable {gl : GlT} {P : Program} {o : Oper} {a : Act} {w : World} {g : Gh} {ob : Objs} {U : Nat → Prop} {fr : Fr} {base W : Nat} {r : R}

theorem elems_at {S : Nat → Nat → Prop} {sz sz' b off : Nat} {ys : List Data} (he : Elems w S sz' b off ys) (hs : sizesOk sz ys = true) : ∀ j x, ys[j]? = some x → ∃ v, DRep w S x v ∧ v.cells.size = sz ∧ ∀ t u, v.cells[t]? = some u → World.at_ w b (off + (j * sz + t)) = some u := by
  intro j x hj
  obtain ⟨v, h1, h2, h3⟩ := Elems.get j off ys x he hj
  have : sz' = sz := by rw [← h2, h1.size]; exact sizesOk_mem hs x (List.mem_of_getElem? hj)
  subst this
  exact ⟨v, h1, h2, fun t u hu => by rw [← Nat.add_assoc]; exact (h3 t u hu).1⟩

theorem flat_news (hg : Good w g ob U) {v : AV} {val : Value} {sz sz' : Nat} {ys : List Data} (hv : VRep (cx w g ob) v val) (hd : v.toD ob = some (.sl sz' ys)) (hs : sizesOk sz ys = true) (hne : ys ≠ []) :
    ∃ b off c, ∃ news : List Value, val = .slice (some ⟨b, off, none⟩) ys.length c ∧ news.length = ys.length * sz ∧ (∀ j u, news[j]? = some u → World.at_ w b (off + j) = some u) ∧ (∀ u ∈ news, u.oneCell' = true) ∧
      ∀ (j : Nat) (x : Data), ys[j]? = some x → ∃ v, DRep w (cx w g ob).S x v ∧ v.cells.size = sz ∧ ∀ t u, v.cells[t]? = some u → news[j * sz + t]? = some u := by
  cases v with
  | d y =>
    injection hd with hd; subst hd
    obtain ⟨A, c, e, _, he⟩ := hv
    obtain ⟨b, off, rfl, hel⟩ := he hne
    obtain ⟨news, n1, n2, n3, n4⟩ := news_of ys (fun i => World.at_ w b (off + i)) (elems_at hel hs)
    exact ⟨b, off, c, news, e, n1, n2, n3, n4⟩
  | nils k => injection hd with hd; injection hd with _ hd; exact absurd hd.symm hne
  | nn nb k xs =>
    injection hd with hd; injection hd with h1 h2; subst h1; subst h2
    obtain ⟨A, c, e, _, he⟩ := hv.2
    obtain ⟨b, off, rfl, hel⟩ := he hne
    obtain ⟨news, n1, n2, n3, n4⟩ := news_of xs (fun i => World.at_ w b (off + i)) (elems_at hel hs)
    exact ⟨b, off, c, news, e, n1, n2, n3, n4⟩
  | lim k xs =>
    injection hd with hd; injection hd with h1 h2; subst h1; subst h2
    obtain ⟨A, e, he⟩ := hv
    obtain ⟨b, off, rfl, hel⟩ := he hne
    obtain ⟨news, n1, n2, n3, n4⟩ := news_of xs (fun i => World.at_ w b (off + i)) (elems_at hel hs)
    exact ⟨b, off, _, news, e, n1, n2, n3, n4⟩
  | own p =>
    unfold AV.toD at hd
    dsimp only at hd
    cases hy : oget ob p with
    | none => rw [hy] at hd; cases hd
    | some y => cases y with
      | arr sz2 xs u =>
        rw [hy] at hd
        injection hd with hd; injection hd with h1 h2; subst h1; subst h2
        have hl : (cx w g ob).ln p = some (sz2, xs.length) := by show lnOf ob p = _; unfold lnOf; rw [hy]
        have ea := hv.2 sz2 _ hl
        rcases hg.rep p _ hy with ⟨q1, q2⟩ | ⟨b, arr, tt, q1, q2, q3, q4, q5, q6⟩
        · exact absurd q2 hne
        · unfold ownVal at ea; rw [q1] at ea
          have hat : ∀ (j : Nat) (x : Data), xs[j]? = some x → ∃ v, DRep w (cx w g ob).S x v ∧ v.cells.size = sz ∧ ∀ t u, v.cells[t]? = some u → World.at_ w b (0 + (j * sz + t)) = some u := by
            intro j x hj
            obtain ⟨v, h1, h2, h3⟩ := inArr_get 0 xs j x q6 hj
            have : sz2 = sz := by rw [← h2, h1.size]; exact sizesOk_mem hs x (List.mem_of_getElem? hj)
            subst this
            refine ⟨v, h1, h2, fun t u hu => ?_⟩
            rw [at_eq, show w.heap[b]? = some (.cells arr tt (0, 0)) from q2]
            have := h3 t u hu
            rw [Nat.zero_add] at this ⊢
            exact this
          obtain ⟨news, n1, n2, n3, n4⟩ := news_of xs (fun i => World.at_ w b (0 + i)) hat
          exact ⟨b, 0, _, news, ea, n1, n2, n3, n4⟩
      | _ => rw [hy] at hd; cases hd
  | _ => cases hd

theorem empty_slice (hg : Good w g ob U) {v : AV} {val : Value} {sz' : Nat} (hv : VRep (cx w g ob) v val) (hd : v.toD ob = some (.sl sz' [])) : ∃ A c, val = .slice A 0 c := by
  cases v with
  | d y => injection hd with hd; subst hd; obtain ⟨A, c, e, _⟩ := hv; exact ⟨A, c, e⟩
  | nils k => exact ⟨none, 0, hv⟩
  | nn nb k xs => injection hd with hd; injection hd with h1 h2; subst h2; obtain ⟨A, c, e, _⟩ := hv.2; exact ⟨A, c, e⟩
  | lim k xs => injection hd with hd; injection hd with h1 h2; subst h2; obtain ⟨A, e, _⟩ := hv; exact ⟨A, 0, e⟩
  | own p =>
    unfold AV.toD at hd
    dsimp only at hd
    cases hy : oget ob p with
    | none => rw [hy] at hd; cases hd
    | some y => cases y with
      | arr sz2 xs u =>
        rw [hy] at hd
        injection hd with hd; injection hd with h1 h2; subst h2
        have hl : (cx w g ob).ln p = some (sz2, 0) := by show lnOf ob p = _; unfold lnOf; rw [hy]; rfl
        have ea := hv.2 sz2 _ hl
        unfold ownVal at ea
        cases hb : (cx w g ob).bl p with
        | none => rw [hb] at ea; exact ⟨none, 0, ea⟩
        | some b => rw [hb] at ea; exact ⟨_, _, ea⟩
      | _ => rw [hy] at hd; cases hd
  | _ => cases hd

theorem del_step (hg : Good w g ob U) (p : Nat) : Good w g ((p, none) :: ob) U ∧ Step w g ob w g ((p, none) :: ob) U (fun _ => False) := by
  have hsub : ∀ i x, oget ((p, none) :: ob) i = some x → oget ob i = some x := by
    intro i x hi
    rw [oget_cons] at hi
    by_cases e : p = i
    · rw [if_pos e] at hi; cases hi
    · rw [if_neg e] at hi; exact hi
  have hl : Later (cx w g ob) (cx w g ((p, none) :: ob)) U := by
    refine ⟨fun b off u hs hu => ⟨hu, hs.1, ?_⟩, fun _ _ => rfl, fun _ _ => rfl, fun i sz n _ hln => ?_⟩
    · rintro ⟨i, x, hi, hb, hm⟩
      exact hs.2 ⟨i, x, hsub i x hi, hb, hm⟩
    · show lnOf ob i = some (sz, n)
      have hln' : lnOf ((p, none) :: ob) i = some (sz, n) := hln
      rw [lnOf_cons] at hln'
      by_cases e : p = i
      · rw [if_pos e] at hln'; cases hln'
      · rw [if_neg e] at hln'; exact hln'
  refine ⟨⟨fun i x hi => ?_, fun i j x y b hi hj => hg.inj i j x y b (hsub i x hi) (hsub j y hj), fun i x hi => hg.dom i x (hsub i x hi), hg.fresh, fun i x b hi => hg.own i x b (hsub i x hi)⟩, ⟨hl, fun i _ h => ?_, fun _ _ _ => rfl, fun i hu h b _ => ?_, Nat.le_refl _, rfl, rfl, rfl, rfl⟩⟩
  · have hi' := hsub i x hi
    exact ObRep.mono hl i x (hg.dom i x hi').1 (hg.dom i x hi').2 (fun _ _ => rfl) (hg.rep i x hi')
  · obtain ⟨x, hx⟩ := Option.ne_none_iff_exists'.1 h
    rw [hsub i x hx]; simp
  · obtain ⟨x, hx⟩ := Option.ne_none_iff_exists'.1 h
    exact absurd (hg.dom i x (hsub i x hx)).1 hu

/-- a nil slice under a name -/
theorem nil_new (hg : Good w g ob U) (hbase : ¬U base) (sz : Nat) (u : Bool) : ∃ g', Good w g' ((base, some (.arr sz [] u)) :: ob) (fun i => U i ∨ i = base) ∧ Step w g ob w g' ((base, some (.arr sz [] u)) :: ob) U (fun _ => False) ∧
    VRep (cx w g' ((base, some (.arr sz [] u)) :: ob)) (.own base) (.slice none 0 0) := by
  let g' : Gh := ⟨fun i => if i = base then none else g.bl i, g.cp, g.al⟩
  have hne : ∀ i, U i → i ≠ base := fun i hi e => hbase (e ▸ hi)
  have hl : Later (cx w g ob) (cx w g' ((base, some (.arr sz [] u)) :: ob)) U := by
    refine ⟨fun b off v hs hv => ⟨hv, hs.1, ?_⟩, fun i hi => by simp [cx, g', hne i hi], fun _ _ => rfl, fun i sz' n hi hln => ?_⟩
    · rintro ⟨i, x, hi, hb, hm⟩
      rw [oget_cons] at hi
      by_cases e : base = i
      · subst e; simp [g', cx] at hb
      · rw [if_neg e] at hi
        exact hs.2 ⟨i, x, hi, by simpa [g', cx, Ne.symm e] using hb, hm⟩
    · show lnOf ob i = some (sz', n)
      have hln' : lnOf ((base, some (AObj.arr sz [] u)) :: ob) i = some (sz', n) := hln
      rw [lnOf_cons, if_neg (Ne.symm (hne i hi))] at hln'
      exact hln'
  refine ⟨g', ⟨fun i x hi => ?_, fun i j x y b hi hj h1 h2 => ?_, fun i x hi => ?_, hg.fresh, fun i x b hi hbl => ?_⟩, ⟨hl, fun i hi h => ?_, fun _ _ _ => rfl, fun i hu h b hb => ?_, Nat.le_refl _, rfl, rfl, rfl, rfl⟩, rfl, fun sz' n hln => ?_⟩
  · rw [oget_cons] at hi
    by_cases e : base = i
    · subst e
      rw [if_pos rfl] at hi; injection hi with hi; subst hi
      exact .inl ⟨by simp [cx, g'], rfl⟩
    · rw [if_neg e] at hi
      exact ObRep.mono hl i x (hg.dom i x hi).1 (hg.dom i x hi).2 (fun _ _ => rfl) (hg.rep i x hi)
  · rw [oget_cons] at hi hj
    by_cases e : base = i
    · subst e; simp [g'] at h1
    · by_cases e' : base = j
      · subst e'; simp [g'] at h2
      · rw [if_neg e] at hi; rw [if_neg e'] at hj
        exact hg.inj i j x y b hi hj (by simpa [g', Ne.symm e] using h1) (by simpa [g', Ne.symm e'] using h2)
  · rw [oget_cons] at hi
    by_cases e : base = i
    · subst e
      rw [if_pos rfl] at hi; injection hi with hi; subst hi
      exact ⟨.inr rfl, fun q hq => by cases hq⟩
    · rw [if_neg e] at hi
      exact ⟨.inl (hg.dom i x hi).1, fun q hq => .inl ((hg.dom i x hi).2 q hq)⟩
  · rw [oget_cons] at hi
    by_cases e : base = i
    · subst e; simp [g'] at hbl
    · rw [if_neg e] at hi
      exact hg.own i x b hi (by simpa [g', Ne.symm e] using hbl)
  · rw [oget_cons, if_neg (Ne.symm (hne i hi))] at h; exact h
  · rw [oget_cons] at h
    by_cases e : base = i
    · subst e; simp [g'] at hb
    · rw [if_neg e] at h
      obtain ⟨x, hx⟩ := Option.ne_none_iff_exists'.1 h
      exact absurd (hg.dom i x hx).1 hu
  · have : lnOf ((base, some (AObj.arr sz [] u)) :: ob) base = some (sz', n) := hln
    rw [lnOf_cons, if_pos rfl] at this
    injection this with this; injection this with _ e2
    subst e2
    simp [ownVal, cx, g']

/-- an array that has grown in its own block, under a new name -/
theorem inplace {w' : World} {p b sz : Nat} {xs zs : List Data} {u : Bool} {arr arr' : Array Value} {t : TypeId} (hg : Good w g ob U) (hbase : ¬U base) (hp : oget ob p = some (.arr sz xs u)) (hb : g.bl p = some b) (hold : w.heap[b]? = some (.cells arr t (0, 0)))
    (hw : ∀ k, k ≠ b → w'.heap[k]? = w.heap[k]?) (hsz : w'.heap.size = w.heap.size) (hos : w'.os = w.os) (htape : w'.tape = w.tape) (hout : w'.output = w.output) (hnew : w'.heap[b]? = some (.cells arr' t (0, 0)))
    (hs : arr'.size = g.cp p * sz) (hc : zs.length ≤ g.cp p) (h0 : 0 < sz) (hle : xs.length ≤ zs.length) (hpre : ∀ i, i < xs.length * sz → arr'[i]? = arr[i]?) (hin : InArr (cx w g ob) sz arr' 0 zs) :
    ∃ g', Good w' g' ((base, some (.arr sz zs u)) :: (p, none) :: ob) (fun i => U i ∨ i = base) ∧ Step w g ob w' g' ((base, some (.arr sz zs u)) :: (p, none) :: ob) U (fun i => i = p) ∧
      VRep (cx w' g' ((base, some (.arr sz zs u)) :: (p, none) :: ob)) (.own base) (.slice (some ⟨b, 0, none⟩) zs.length (g.cp p)) := by
  have hUp := (hg.dom p _ hp).1
  have hne : ∀ i, U i → i ≠ base := fun i hi e => hbase (e ▸ hi)
  have hpb : p ≠ base := hne p hUp
  have hsub : ∀ i x, i ≠ base → oget ((base, some (.arr sz zs u)) :: (p, none) :: ob) i = some x → i ≠ p ∧ oget ob i = some x := by
    intro i x hib hi
    rw [oget_cons, if_neg (Ne.symm hib), oget_cons] at hi
    by_cases e : p = i
    · rw [if_pos e] at hi; cases hi
    · rw [if_neg e] at hi; exact ⟨Ne.symm e, hi⟩
  have hbk : ∀ i x b', oget ob i = some x → i ≠ p → g.bl i = some b' → b' ≠ b := fun i x b' hi hip hb' e => hip (hg.inj i p x _ b hi hp (e ▸ hb') hb)
  have hl : Later (cx w g ob) (cx w' (ghSet g base b (g.cp p)) ((base, some (.arr sz zs u)) :: (p, none) :: ob)) U := by
    refine ⟨fun b' off v hns hv => ?_, fun i hi => by simp [cx, ghSet, hne i hi], fun i hi => by simp [cx, ghSet, hne i hi], fun i sz' n hi hln => ?_⟩
    · have hcell : World.at_ w' b' off = some v := by
        by_cases e : b' = b
        · subst e
          have hnm : ¬ (u = true ∨ xs.length * sz ≤ off) := fun hm => hns.2 ⟨p, _, hp, hb, hm⟩
          have hoff : off < xs.length * sz := by
            rcases Nat.lt_or_ge off (xs.length * sz) with q | q
            · exact q
            · exact absurd (.inr q) hnm
          have hv' : World.at_ w b' off = some v := hv
          rw [at_eq, hold] at hv'
          rw [at_eq, hnew]
          dsimp only at hv' ⊢
          rw [hpre off hoff]; exact hv'
        · rw [at_congr (hw b' e)]; exact hv
      refine ⟨hcell, hns.1, ?_⟩
      rintro ⟨i, x, hi, hbi, hm⟩
      by_cases eb : i = base
      · subst eb
        rw [oget_cons, if_pos rfl] at hi
        injection hi with hi; subst hi
        simp [cx, ghSet] at hbi
        subst hbi
        refine hns.2 ⟨p, _, hp, hb, ?_⟩
        rcases hm with hm | hm
        · exact .inl hm
        · refine .inr (Nat.le_trans (Nat.mul_le_mul_right _ hle) hm)
      · obtain ⟨_, hi'⟩ := hsub i x eb hi
        exact hns.2 ⟨i, x, hi', by simpa [cx, ghSet, eb] using hbi, hm⟩
    · show lnOf ob i = some (sz', n)
      have hln' : lnOf ((base, some (AObj.arr sz zs u)) :: (p, none) :: ob) i = some (sz', n) := hln
      rw [lnOf_cons, if_neg (Ne.symm (hne i hi)), lnOf_cons] at hln'
      by_cases e : p = i
      · rw [if_pos e] at hln'; cases hln'
      · rw [if_neg e] at hln'; exact hln'
  refine ⟨ghSet g base b (g.cp p), ⟨fun i x hi => ?_, fun i j x y b' hi hj h1 h2 => ?_, fun i x hi => ?_, fun b off hb' => hg.fresh b off (by omega), fun i x b' hi hbl off => ?_⟩, ⟨hl, fun i hi h => ?_, fun b' _ hk => ?_, fun i hu h b' hb' => ?_, by omega, hos, htape, hout, rfl⟩, rfl, fun sz' n hln => ?_⟩
  · by_cases eb : i = base
    · subst eb
      rw [oget_cons, if_pos rfl] at hi; injection hi with hi; subst hi
      exact .inr ⟨b, arr', t, by simp [cx, ghSet], hnew, by simpa [cx, ghSet] using hs, by simpa [cx, ghSet] using hc, h0, InArr.mono hl.keeps sz arr' 0 zs hin⟩
    · obtain ⟨hip, hi'⟩ := hsub i x eb hi
      exact ObRep.mono hl i x (hg.dom i x hi').1 (hg.dom i x hi').2 (fun b' hb' => hw b' (hbk i x b' hi' hip hb')) (hg.rep i x hi')
  · by_cases e1 : i = base <;> by_cases e2 : j = base
    · rw [e1, e2]
    · exfalso
      subst e1
      obtain ⟨hjp, hj'⟩ := hsub j y e2 hj
      simp [ghSet] at h1; subst h1
      exact hbk j y _ hj' hjp (by simpa [ghSet, e2] using h2) rfl
    · exfalso
      subst e2
      obtain ⟨hip, hi'⟩ := hsub i x e1 hi
      simp [ghSet] at h2; subst h2
      exact hbk i x _ hi' hip (by simpa [ghSet, e1] using h1) rfl
    · exact hg.inj i j x y b' (hsub i x e1 hi).2 (hsub j y e2 hj).2 (by simpa [ghSet, e1] using h1) (by simpa [ghSet, e2] using h2)
  · by_cases eb : i = base
    · subst eb
      rw [oget_cons, if_pos rfl] at hi; injection hi with hi; subst hi
      exact ⟨.inr rfl, fun q hq => by cases hq⟩
    · obtain ⟨_, hi'⟩ := hsub i x eb hi
      exact ⟨.inl (hg.dom i x hi').1, fun q hq => .inl ((hg.dom i x hi').2 q hq)⟩
  · by_cases eb : i = base
    · subst eb
      simp [ghSet] at hbl; subst hbl
      exact hg.own p _ _ hp hb off
    · exact hg.own i x b' (hsub i x eb hi).2 (by simpa [ghSet, eb] using hbl) off
  · obtain ⟨x, hx⟩ := Option.ne_none_iff_exists'.1 h
    rw [(hsub i x (hne i hi) hx).2]; simp
  · exact hw b' fun e => hk p rfl (by rw [hp]; simp) (e ▸ hb)
  · obtain ⟨x, hx⟩ := Option.ne_none_iff_exists'.1 h
    by_cases eb : i = base
    · subst eb
      simp [ghSet] at hb'; subst hb'
      exact .inr ⟨p, rfl, by rw [hp]; simp, hb⟩
    · exact absurd (hg.dom i x (hsub i x eb hx).2).1 hu
  · have : lnOf ((base, some (AObj.arr sz zs u)) :: (p, none) :: ob) base = some (sz', n) := hln
    rw [lnOf_cons, if_pos rfl] at this
    injection this with this; injection this with _ e2
    subst e2
    simp [ownVal, cx, ghSet]
end
end Go.V

set_option linter.unusedVariables false
set_option linter.unusedSimpArgs false
namespace Go.V

/-! ### cells that are set -/
theorem heap_setCell_far (w : World) (b o : Nat) (v : Value) (k : Nat) (hk : k ≠ b) : (w.setCell ⟨b, o, none⟩ v).heap[k]? = w.heap[k]? := by
  show (w.heap.modify b _)[k]? = _
  rw [Array.getElem?_modify, if_neg (Ne.symm hk)]
theorem heap_setCell_same {w : World} {b : Nat} {cur : Array Value} {t : TypeId} {fz : Nat × Nat} (h : w.heap[b]? = some (.cells cur t fz)) (o : Nat) (v : Value) : (w.setCell ⟨b, o, none⟩ v).heap[b]? = some (.cells (cur.setIfInBounds o v) t fz) := by
  show (w.heap.modify b _)[b]? = _
  rw [Array.getElem?_modify, if_pos rfl, h]
  rfl
theorem setCells_far (b : Nat) : ∀ (vs : List Value) (o : Nat) (w : World) (k : Nat), k ≠ b → (w.setCells b o vs).heap[k]? = w.heap[k]?
  | [], _, _, _, _ => rfl
  | v :: r, o, w, k, hk => by
    rw [World.setCells, setCells_far b r (o + 1) _ k hk]
    exact heap_setCell_far w b o v k hk
theorem setCells_same (b : Nat) : ∀ (vs : List Value) (o : Nat) (w : World), (w.setCells b o vs).os = w.os ∧ (w.setCells b o vs).tape = w.tape ∧ (w.setCells b o vs).output = w.output ∧ (w.setCells b o vs).heap.size = w.heap.size
  | [], _, _ => ⟨rfl, rfl, rfl, rfl⟩
  | v :: r, o, w => by
    obtain ⟨h1, h2, h3, h4⟩ := setCells_same b r (o + 1) (w.setCell ⟨b, o, none⟩ v)
    rw [World.setCells]
    exact ⟨h1, h2, h3, by rw [h4]; simp [World.setCell]⟩
theorem setCells_putV (b : Nat) {t : TypeId} {fz : Nat × Nat} : ∀ (vs : List Value) (o : Nat) (w : World) (cur : Array Value), w.heap[b]? = some (.cells cur t fz) → (w.setCells b o vs).heap[b]? = some (.cells (putV cur o vs) t fz)
  | [], _, _, _, h => h
  | v :: r, o, w, cur, h => by
    rw [World.setCells, setCells_putV b r (o + 1) _ _ (heap_setCell_same h o v)]
    rfl

section
variable {gl : GlT} {P : Program} {o : Oper} {a : Act} {w : World} {g : Gh} {ob : Objs} {U : Nat → Prop} {fr : Fr} {base W : Nat} {r : R}

/-- cells that hold some elements -/
def Holds (w : World) (S : Nat → Nat → Prop) (sz : Nat) (ys : List Data) (news : List Value) : Prop :=
  news.length = ys.length * sz ∧ ∀ (j : Nat) (x : Data), ys[j]? = some x → ∃ v, DRep w S x v ∧ v.cells.size = sz ∧ ∀ t u, v.cells[t]? = some u → news[j * sz + t]? = some u

theorem app_src (hg : Good w g ob U) {t e : TypeId} (ht : P.underlying t = some (.slice e)) {v : AV} {val : Value} {sz sz' : Nat} {ys : List Data} (hv : VRep (cx w g ob) v val) (hd : v.toD ob = some (.sl sz' ys)) (hs : sizesOk sz ys = true) :
    ∃ news : List Value, Src P sz t val ys.length news w ∧ Holds w (cx w g ob).S sz ys news := by
  by_cases hne : ys = []
  · subst hne
    obtain ⟨A, c, rfl⟩ := empty_slice hg hv hd
    refine ⟨[], ?_, by simp [Holds]⟩
    cases A with
    | none => exact Src.ofNil w ht c
    | some ad => exact Src.ofSlice w ht ad 0 c [] (by simp) (by simp) (by simp)
  · obtain ⟨b, off, c, news, rfl, h1, h2, h3, h4⟩ := flat_news hg hv hd hs hne
    refine ⟨news, Src.ofSlice w ht ⟨b, off, none⟩ _ c news h1 (fun j u hj => ?_) h3, h1, h4⟩
    have := h2 j u hj
    rw [Addr.add_lit]
    exact this

theorem inArr_append {c : Cx} {sz : Nat} {xs ys : List Data} {olds news : List Value} {arr : Array Value} (hx : Holds c.w c.S sz xs olds) (hy : Holds c.w c.S sz ys news)
    (h1 : ∀ (i : Nat) (u : Value), olds[i]? = some u → arr[i]? = some u) (h2 : ∀ (i : Nat) (u : Value), news[i]? = some u → arr[xs.length * sz + i]? = some u) : InArr c sz arr 0 (xs ++ ys) := by
  refine inArr_of 0 _ fun j x hj => ?_
  rw [List.getElem?_append] at hj
  split at hj
  · obtain ⟨v, k1, k2, k3⟩ := hx.2 j x hj
    exact ⟨v, k1, k2, fun t u hu => by rw [Nat.zero_add]; exact h1 _ u (k3 t u hu)⟩
  · rename_i hjl
    obtain ⟨v, k1, k2, k3⟩ := hy.2 (j - xs.length) x hj
    refine ⟨v, k1, k2, fun t u hu => ?_⟩
    have := h2 _ u (k3 t u hu)
    rw [← Nat.add_assoc, ← Nat.add_mul] at this
    rw [Nat.zero_add]
    rwa [show xs.length + (j - xs.length) = j by omega] at this

theorem Holds.mono {w w' : World} {S S' : Nat → Nat → Prop} (h : Keeps w S w' S') {sz : Nat} {ys : List Data} {news : List Value} (k : Holds w S sz ys news) : Holds w' S' sz ys news :=
  ⟨k.1, fun j x hj => let ⟨v, h1, h2, h3⟩ := k.2 j x hj; ⟨v, DRep.mono h x v h1, h2, h3⟩⟩

/-- an append that grows: a new block -/
theorem app_grow (hg : Good w g ob U) (hbase : ¬U base) {t t' ty e : TypeId} {sz bytes : Nat} {i : TypeInfo} {z : Value} (ht : P.underlying t = some (.slice e)) (hi : P.info? e = some i) (hz : i.zero = some z) (hsz : i.size = sz) (hzz : z.cells.size = sz) (hby : i.bytes = bytes)
    (h0 : 0 < sz) (hb0 : 0 < bytes) {A : Option Addr} {cap : Nat} {xs ys : List Data} {olds news : List Value} {x : Value} {u : Bool}
    (hold : (Builtin.firstCells sz xs.length (.slice A xs.length cap)).run P w.drew = .ok olds.toArray w.drew) (hs : Src P sz t' x ys.length news w) (hx : Holds w (cx w g ob).S sz xs olds) (hy : Holds w (cx w g ob).S sz ys news)
    (hc : cap < xs.length + ys.length) (hB : (xs.length + ys.length) * bytes ≤ 140737488355328) :
    ∃ v w' g', (Builtin.append_ #[t, t'] ty #[.slice A xs.length cap, x]).run P w = .ok v w' ∧ Good w' g' ((base, some (.arr sz (xs ++ ys) u)) :: ob) (fun o => U o ∨ o = base) ∧
      Step w g ob w' g' ((base, some (.arr sz (xs ++ ys) u)) :: ob) U (fun _ => False) ∧ VRep (cx w' g' ((base, some (.arr sz (xs ++ ys) u)) :: ob)) (.own base) v := by
  subst hsz; subst hby
  have h63 : ((xs.length + ys.length : Nat) : Int) ≤ 9223372036854775807 := by
    have : xs.length + ys.length ≤ (xs.length + ys.length) * i.bytes := Nat.le_mul_of_pos_right _ hb0
    omega
  have hrun := run_append_grow_src (P := P) w t t' ty e i z ht hi hz A xs.length cap olds hold x ys.length news hs hc h63 (growslice_fits hc hB)
  have hge := grownCap_ge w (xs.length + ys.length) cap e
  obtain ⟨k1, k2, k3⟩ := fresh_arr (w' := w.drew.alloc (.cells ((olds ++ news).toArray ++ Builtin.zeroCells z.cells (grownCap w (xs.length + ys.length) cap e - (xs.length + ys.length))) e)) (u := u) (sz := i.size)
    (cap := grownCap w (xs.length + ys.length) cap e) (xs := xs ++ ys) (t := e) hg hbase (push_alloc w.drew _) rfl rfl rfl
    (by
      rw [Array.size_append, List.size_toArray, List.length_append, hx.1, hy.1, size_zeroCells, hzz, ← Nat.add_mul, ← Nat.add_mul]
      congr 1; omega)
    (by rw [List.length_append]; exact hge) h0
    (inArr_append hx hy (fun i u hu => by
        have hl := (List.getElem?_eq_some_iff.1 hu).1
        rw [Array.getElem?_append_left (by simp; omega), List.getElem?_toArray, List.getElem?_append_left hl]; exact hu)
      (fun i u hu => by
        have hl := (List.getElem?_eq_some_iff.1 hu).1
        rw [← hx.1, Array.getElem?_append_left (by simp; omega), List.getElem?_toArray, List.getElem?_append_right (by omega), Nat.add_sub_cancel_left]; exact hu))
  rw [List.length_append] at k3
  exact ⟨_, _, _, hrun, k1, k2, k3⟩

theorem row_holds {ob' : Objs} {sz : Nat} {arr : Array Value} {xs : List Data} (hin : InArr (cx w g ob') sz arr 0 xs) (hn : xs.length * sz ≤ arr.size) : Holds w (cx w g ob').S sz xs (arr.toList.take (xs.length * sz)) := by
  refine ⟨List.length_take.trans (Nat.min_eq_left (by simpa using hn)), fun j x hj => ?_⟩
  obtain ⟨v, h1, h2, h3⟩ := inArr_get 0 xs j x hin hj
  refine ⟨v, h1, h2, fun t u hu => ?_⟩
  have ht : t < sz := by rw [← h2]; exact (Array.getElem?_eq_some_iff.1 hu).1
  have hjl := (List.getElem?_eq_some_iff.1 hj).1
  have hlt : j * sz + t < xs.length * sz := by
    have : (j + 1) * sz ≤ xs.length * sz := Nat.mul_le_mul_right _ (by omega)
    rw [Nat.add_mul, Nat.one_mul] at this
    omega
  have := h3 t u hu
  rw [Nat.zero_add] at this
  rw [List.getElem?_take, if_pos hlt, Array.getElem?_toList]
  exact this

theorem first_row {b cap n sz : Nat} {w' : World} {arr : Array Value} {tt : TypeId} (hb : w'.heap[b]? = some (.cells arr tt (0, 0))) (hn : n * sz ≤ arr.size) :
    (Builtin.firstCells sz n (.slice (some ⟨b, 0, none⟩) n cap)).run P w' = .ok (arr.toList.take (n * sz)).toArray w' := by
  refine run_firstCells_some w' sz n ⟨b, 0, none⟩ n cap _ (List.length_take.trans (Nat.min_eq_left (by simpa using hn))) fun j v hj => ?_
  rw [Addr.add_lit]
  show World.at_ w' b (0 + j) = some v
  rw [at_eq, hb, Nat.zero_add]
  rw [List.getElem?_take] at hj
  split at hj
  · rw [Array.getElem?_toList] at hj; exact hj
  · cases hj

theorem ok_app (h : Here gl a w g ob U fr) (hb : ∀ n, base ≤ n → n < base + W → ¬U n) (hW : 1 ≤ W) {t t' e sz bytes t1 t2 : Nat} {x y : Operand} {x' y' : Opd} (ho : o.op = .call { callee := .builtin .append, args := #[x, y], argTypes := #[t, t'] })
    (ht : P.underlying t = some (.slice e)) (ht' : P.underlying t' = some (.slice e)) (hsz : sizeT P e = some sz) (hby : bytesT P e = some bytes) (hz : (zeroOf P e).isSome = true) (h0 : 0 < sz) (hb0 : 0 < bytes)
    (h1 : opd gl P t1 x = some x') (h2 : opd gl P t2 y = some y') (hr : appR sz bytes base ob (x'.ev fr) (y'.ev fr).ownNames ((y'.ev fr).toD ob) = some r) : Runs P o a w (Done w g ob U base W r) := by
  have hg := h.good
  have hbase : ¬U base := hb base (Nat.le_refl _) (by omega)
  obtain ⟨l, hl⟩ := Option.isSome_iff_exists.1 hz
  obtain ⟨i, z, hi, hzv, _, hzz⟩ := zeroOf_info hl
  have hisz : i.size = sz := by
    obtain ⟨i', hi', he'⟩ := Option.map_eq_some_iff.1 hsz
    rw [hi] at hi'; injection hi' with hi'; subst hi'; exact he'
  have hiby : i.bytes = bytes := by
    obtain ⟨i', hi', he'⟩ := Option.map_eq_some_iff.1 hby
    rw [hi] at hi'; injection hi' with hi'; subst hi'; exact he'
  have hx := h.opd h1
  have hy := h.opd h2
  cases hd : (y'.ev fr).toD ob with
  | none => rw [hd] at hr; cases hr
  | some yd => cases yd with
    | sl sz' ys =>
      rw [hd] at hr
      obtain ⟨hso, hr⟩ := need_some hr
      obtain ⟨news, hs, hh⟩ := app_src hg ht' hy hd hso
      have fin : ∀ {v : Value} {w' : World}, (Builtin.append_ #[t, t'] o.type #[a.eval x, a.eval y]).run P w = .ok v w' → Done w g ob U base W r v w' → Runs P o a w (Done w g ob U base W r) := by
        intro v w' hrun hd
        refine .inl ⟨v, w', ?_, hd⟩
        exact run_builtin (s := Builtin.append_ #[t, t'] o.type (#[x, y].map a.eval)) ho (fun _ => rfl) (by simpa using hrun)
      generalize x'.ev fr = xv at hr hx
      -- a new block from a nil slice
      have fromNil : ∀ {U1 : Nat → Prop} {ob1 : Objs} {u : Bool}, Good w g ob1 U → Step w g ob w g ob1 U (fun _ => False) → ys ≠ [] → a.eval x = .slice none 0 0 → ys.length * bytes ≤ 140737488355328 →
          ∃ v w' g', (Builtin.append_ #[t, t'] o.type #[a.eval x, a.eval y]).run P w = .ok v w' ∧ Good w' g' ((base, some (.arr sz ([] ++ ys) u)) :: ob1) (fun o => U o ∨ o = base) ∧
            Step w g ob w' g' ((base, some (.arr sz ([] ++ ys) u)) :: ob1) U (fun _ => False) ∧ VRep (cx w' g' ((base, some (.arr sz ([] ++ ys) u)) :: ob1)) (.own base) v := by
        intro U1 ob1 u hg1 hs1 hne ea hB
        have hpos : 0 < ys.length := List.length_pos_iff.2 hne
        obtain ⟨v, w', g', k1, k2, k3, k4⟩ := app_grow (t' := t') (ty := o.type) (u := u) (A := none) (cap := 0) (xs := []) (ys := ys) (olds := []) (news := news) (x := a.eval y) hg1 hbase ht hi hzv hisz (by rw [hzz, hisz]) hiby h0 hb0
          (run_firstCells_none _ _ _ _ _) hs (by simp [Holds]) (hh.mono hs1.later.keeps) (by simpa using hpos) (by simpa using hB)
        refine ⟨v, w', g', ?_, k2, (Step.trans hs1 k3 fun _ h => h).mono fun _ hf => hf.elim id id, k4⟩
        rw [ea]; exact k1
      cases xv with
      | nils k =>
        obtain ⟨hB, hr2⟩ := need_some hr
        injection hr2 with hr2; subst hr2
        have hB := of_decide_eq_true hB
        have ea : a.eval x = .slice none 0 0 := hx
        by_cases hne : ys = []
        · subst hne
          obtain ⟨g', k1, k2, k3⟩ := nil_new hg hbase sz true
          refine fin ?_ (done_arr hg hb hW rfl (fun n hn => hn.resolve_left id) k1 (k2.mono fun _ hf => hf.elim) k3)
          rw [ea]
          have hn0 : news = [] := List.eq_nil_of_length_eq_zero (by rw [hh.1]; simp)
          subst hn0
          exact run_append_nothing w t t' o.type e i ht hi none 0 0 (Nat.le_refl _) _ (hisz ▸ hs)
        · obtain ⟨v, w', g', k1, k2, k3, k4⟩ := fromNil (U1 := U) (ob1 := ob) (u := true) hg (Step.refl w g ob U _ hg.in) hne ea hB
          exact fin k1 (done_arr hg hb hW rfl (fun n hn => hn.resolve_left id) k2 (k3.mono fun _ hf => hf.elim) k4)
      | lim k xs =>
        obtain ⟨hB, hr2⟩ := need_some hr
        injection hr2 with hr2; subst hr2
        simp only [Bool.and_eq_true, decide_eq_true_eq, Bool.not_eq_true'] at hB
        obtain ⟨hk, hB, hne⟩ := hB
        have hk := Nat.eq_of_beq_eq_true hk
        subst hk
        have hpos : 0 < ys.length := by cases ys with
          | nil => cases hne
          | cons _ _ => simp
        obtain ⟨A, ea, he⟩ := hx
        have olds : ∃ olds : List Value, (Builtin.firstCells sz xs.length (.slice A xs.length xs.length)).run P w.drew = .ok olds.toArray w.drew ∧ Holds w (cx w g ob).S sz xs olds := by
          by_cases hx0 : xs = []
          · subst hx0
            cases A with
            | none => exact ⟨[], run_firstCells_none _ _ _ _ _, by simp [Holds]⟩
            | some ad => exact ⟨[], run_firstCells_some _ _ _ _ _ _ _ (by simp) (by simp), by simp [Holds]⟩
          · obtain ⟨b, off, rfl, hel⟩ := he hx0
            obtain ⟨olds, n1, n2, n3, n4⟩ := news_of (w := w) (S := (cx w g ob).S) (sz := sz) xs (fun i => World.at_ w b (off + i)) fun j x hj => by
              obtain ⟨v, q1, q2, q3⟩ := Elems.get j off xs x hel hj
              exact ⟨v, q1, q2, fun t u hu => by rw [← Nat.add_assoc]; exact (q3 t u hu).1⟩
            refine ⟨olds, run_firstCells_some _ _ _ _ _ _ _ n1 fun j u hj => ?_, n1, n4⟩
            rw [Addr.add_lit]
            simp only [World.cell?_drew]
            exact n2 j u hj
        obtain ⟨olds, q1, q2⟩ := olds
        obtain ⟨v, w', g', k1, k2, k3, k4⟩ := app_grow (t' := t') (ty := o.type) (u := true) (A := A) (cap := xs.length) (xs := xs) (ys := ys) (olds := olds) (news := news) (x := a.eval y) hg hbase ht hi hzv hisz (by rw [hzz, hisz]) hiby h0 hb0
          q1 hs q2 hh (by omega) hB
        exact fin (by rw [ea]; exact k1) (done_arr hg hb hW rfl (fun n hn => hn.resolve_left id) k2 (k3.mono fun _ hf => hf.elim) k4)
      | own p =>
        unfold appX at hr
        dsimp only at hr
        cases hp : oget ob p with
        | none => rw [hp] at hr; cases hr
        | some pv => cases pv with
          | arr sz2 xs u =>
            rw [hp] at hr
            obtain ⟨hB, hr2⟩ := need_some hr
            injection hr2 with hr2; subst hr2
            simp only [Bool.and_eq_true, decide_eq_true_eq, Bool.not_eq_true'] at hB
            obtain ⟨hk, hB, _⟩ := hB
            have hk := Nat.eq_of_beq_eq_true hk
            subst hk
            have hl : (cx w g ob).ln p = some (sz, xs.length) := by show lnOf ob p = _; unfold lnOf; rw [hp]
            have ea := hx.2 sz _ hl
            obtain ⟨d1, d2⟩ := del_step hg p
            have hUp := (hg.dom p _ hp).1
            rcases hg.rep p _ hp with ⟨q1, q2⟩ | ⟨b, arr, tt, q1, q2, q3, q4, q5, q6⟩
            · subst q2
              have ea : a.eval x = .slice none 0 0 := by unfold ownVal at ea; rw [q1] at ea; exact ea
              by_cases hne : ys = []
              · subst hne
                obtain ⟨g', k1, k2, k3⟩ := nil_new d1 hbase sz u
                refine fin ?_ (done_arr hg hb hW rfl (fun n hn => hn.resolve_left id) k1 ((Step.trans d2 k2 fun _ h => h).mono fun _ hf => (hf.elim id id).elim) k3)
                rw [ea]
                have hn0 : news = [] := List.eq_nil_of_length_eq_zero (by rw [hh.1]; simp)
                subst hn0
                exact run_append_nothing w t t' o.type e i ht hi none 0 0 (Nat.le_refl _) _ (hisz ▸ hs)
              · obtain ⟨v, w', g', k1, k2, k3, k4⟩ := fromNil (U1 := U) (u := u) d1 d2 hne ea (by simpa using hB)
                exact fin k1 (done_arr hg hb hW rfl (fun n hn => hn.resolve_left id) k2 (k3.mono fun _ hf => hf.elim) k4)
            · have q2 : w.heap[b]? = some (.cells arr tt (0, 0)) := q2
              have q1 : g.bl p = some b := q1
              have q3 : arr.size = g.cp p * sz := q3
              have q4 : xs.length ≤ g.cp p := q4
              have ea : a.eval x = .slice (some ⟨b, 0, none⟩) xs.length (g.cp p) := by
                unfold ownVal at ea; rw [show (cx w g ob).bl p = some b from q1] at ea; exact ea
              have hxs : xs.length * sz ≤ arr.size := by rw [q3]; exact Nat.mul_le_mul_right _ q4
              by_cases hne : ys = []
              · subst hne
                obtain ⟨g', k1, k2, k3⟩ := inplace (w' := w) (zs := xs ++ []) hg hbase hp q1 q2 (fun _ _ => rfl) rfl rfl rfl rfl q2 q3 (by simpa using q4) h0 (by simp) (fun _ _ => rfl) (by simpa using q6)
                rw [List.append_nil] at k1 k2 k3
                rw [List.append_nil] at fin ⊢
                refine fin ?_ (done_arr hg hb hW rfl (fun n hn => hn.resolve_left id) k1 (k2.mono fun n hn => by subst hn; simp [keysOf]) k3)
                rw [ea]
                have hn0 : news = [] := List.eq_nil_of_length_eq_zero (by rw [hh.1]; simp)
                subst hn0
                exact run_append_nothing w t t' o.type e i ht hi _ _ _ q4 _ (hisz ▸ hs)
              · by_cases hroom : xs.length + ys.length ≤ g.cp p
                · have hnl : news.length = ys.length * sz := hh.1
                  have hfit : xs.length * sz + news.length ≤ arr.size := by rw [hnl, q3, ← Nat.add_mul]; exact Nat.mul_le_mul_right _ hroom
                  obtain ⟨s1, s2, s3, s4⟩ := setCells_same b news (xs.length * sz) w
                  obtain ⟨g', k1, k2, k3⟩ := inplace (w' := w.setCells b (xs.length * sz) news) (arr' := putV arr (xs.length * sz) news) (zs := xs ++ ys) hg hbase hp q1 q2 (fun k hk => setCells_far b news _ w k hk) s4 s1 s2 s3
                    (setCells_putV b news _ w arr q2) (by rw [putV_size]; exact q3) (by simpa using hroom) h0 (by simp) (fun i hi => by rw [putV_get news _ _ _ hfit, if_neg (by omega)])
                    (inArr_append (row_holds q6 hxs) hh
                      (fun i u hu => by
                        rw [List.getElem?_take] at hu
                        split at hu
                        · rw [putV_get news _ _ _ hfit, if_neg (by omega)]; rw [Array.getElem?_toList] at hu; exact hu
                        · cases hu)
                      (fun i u hu => by
                        have hil := (List.getElem?_eq_some_iff.1 hu).1
                        rw [putV_get news _ _ _ hfit, if_pos (by omega), Nat.add_sub_cancel_left]; exact hu))
                  rw [List.length_append] at k3
                  refine fin ?_ (done_arr hg hb hW rfl (fun n hn => hn.resolve_left id) k1 (k2.mono fun n hn => by subst hn; simp [keysOf]) k3)
                  rw [ea]
                  have hcell : ∀ j, j < news.length → ∃ u, arr[xs.length * sz + j]? = some u := fun j hj => ⟨_, Array.getElem?_eq_getElem (by omega)⟩
                  have := run_append_room_src (P := P) w t t' o.type e i ht hi b 0 xs.length (g.cp p) (a.eval y) ys.length news (hisz ▸ hs) hroom
                    (fun j hj => by
                      obtain ⟨u, hu⟩ := hcell j hj
                      have hat : w.cell? ⟨b, 0 + xs.length * i.size + j, none⟩ = some u := by
                        have : World.at_ w b (0 + xs.length * i.size + j) = some u := by rw [at_eq, q2, hisz, Nat.zero_add]; exact hu
                        exact this
                      rw [hat]; rfl)
                    (fun j hj => by unfold World.frozen?; simp only [q2]; simp)
                  rw [hisz, Nat.zero_add] at this
                  exact this
                · obtain ⟨v, w', g', k1, k2, k3, k4⟩ := app_grow (t' := t') (ty := o.type) (u := u) (A := some ⟨b, 0, none⟩) (cap := g.cp p) (xs := xs) (ys := ys) (news := news) (x := a.eval y) d1 hbase ht hi hzv hisz (by rw [hzz, hisz]) hiby h0 hb0
                    (first_row (w' := w.drew) q2 hxs) hs ((row_holds q6 hxs).mono d2.later.keeps) (hh.mono d2.later.keeps) (by omega) hB
                  exact fin (by rw [ea]; exact k1) (done_arr hg hb hW rfl (fun n hn => hn.resolve_left id) k2 ((Step.trans d2 k3 fun _ h => h).mono fun _ hf => (hf.elim id id).elim) k4)
          | _ => rw [hp] at hr; cases hr
      | _ => cases hr
    | _ => rw [hd] at hr; cases hr
end
end Go.V

set_option linter.unusedVariables false
set_option linter.unusedSimpArgs false
namespace Go.V

section
variable {P : Program} {w w0 : World} {S : Nat → Nat → Prop}

/-! ### keys -/
theorem cell_eq {e c d : Nat} {x y : Data} {vx vy : Value} {b : Bool} (hc : scalarC P e = some c) (hk : kcell c x = true) (hx : DRep w0 S x vx) (hy : DRep w0 S y vy) (hb : eqCell x y = some b) : (Op.equalIn (d + 1) e vx vy).run P w = .ok b w := by
  unfold scalarC at hc
  cases hu : P.underlying e with
  | none => rw [hu] at hc; cases hc
  | some u =>
    rw [hu] at hc
    cases u with
    | int q =>
      injection hc with hc; subst hc
      cases x with
      | int k n => cases y with
        | int k' n' =>
          obtain ⟨hkk, hb2⟩ := need_some hb
          have := of_decide_eq_true hkk; subst this
          injection hb2 with hb2; subst hb2
          have e1 : vx = .int k n := hx
          have e2 : vy = .int k n' := hy
          subst e1; subst e2
          rw [run_equalIn_int w d e k q n n' hu, beq_int]
        | _ => cases hb
      | _ => cases hk
    | bool =>
      injection hc with hc; subst hc
      cases x with
      | bool p => cases y with
        | bool p' =>
          injection hb with hb; subst hb
          have e1 : vx = .bool p := hx
          have e2 : vy = .bool p' := hy
          subst e1; subst e2
          rw [run_equalIn_bool w d e p p' hu]
        | _ => cases hb
      | _ => cases hk
    | string =>
      injection hc with hc; subst hc
      cases x with
      | str p => cases y with
        | str p' =>
          injection hb with hb; subst hb
          have e1 : vx = .string ⟨p.toArray⟩ := hx
          have e2 : vy = .string ⟨p'.toArray⟩ := hy
          subst e1; subst e2
          rw [run_equalIn_string w d e _ _ hu, bytes_toList, bytes_toList, beq_bytes]
        | _ => cases hb
      | _ => cases hk
    | _ => cases hc

theorem part_cell {e c off : Nat} {vs : List Value} {u : Value} (hc : scalarC P e = some c) (hu : vs[off]? = some u) : (part e vs.toArray off).run P w = .ok u w := by
  have ha : isAggT P e = some false := by
    unfold scalarC at hc
    unfold isAggT
    cases h : P.underlying e with
    | none => rw [h] at hc; cases hc
    | some k => rw [h] at hc; cases k <;> first | rfl | (cases hc; done)
  unfold part
  simp only [Sem.run_bind, run_isAgg ha, Result.andThen_ok, Bool.false_eq_true, if_false, List.getElem?_toArray, hu, Sem.run_pure]

/-- the cells from some place on -/
def CellsAt (w0 : World) (S : Nat → Nat → Prop) (vs : List Value) (off : Nat) (xs : List Data) : Prop := ∀ (j : Nat) (x : Data), xs[j]? = some x → ∃ u, vs[off + j]? = some u ∧ DRep w0 S x u

theorem CellsAt.of : ∀ {xs : List Data} {vs : List Value}, DReps w0 S xs vs → CellsAt w0 S vs 0 xs
  | [], vs, h, j, x, hj => by simp at hj
  | c :: cs, vs, h, j, x, hj => by
    obtain ⟨v, vs', rfl, h1, h2⟩ := h
    cases j with
    | zero => simp at hj; subst hj; exact ⟨v, rfl, h1⟩
    | succ j =>
      obtain ⟨u, k1, k2⟩ := CellsAt.of h2 j x (by simpa using hj)
      refine ⟨u, ?_, k2⟩
      rw [Nat.zero_add] at k1 ⊢
      simpa using k1
theorem CellsAt.tail {vs : List Value} {off : Nat} {x : Data} {xs : List Data} (h : CellsAt w0 S vs off (x :: xs)) : CellsAt w0 S vs (off + 1) xs := fun j y hj => by
  obtain ⟨u, h1, h2⟩ := h (j + 1) y (by simpa using hj)
  exact ⟨u, by rw [show off + 1 + j = off + (j + 1) by omega]; exact h1, h2⟩

theorem eqCells_cons {x y : Data} {xs ys : List Data} {b : Bool} (h : eqCells (x :: xs) (y :: ys) = some b) : ∃ p q, eqCell x y = some p ∧ eqCells xs ys = some q ∧ b = (p && q) := by
  unfold eqCells at h
  cases h1 : eqCell x y with
  | none => rw [h1] at h; cases h
  | some p => cases h2 : eqCells xs ys with
    | none => rw [h1, h2] at h; cases h
    | some q => rw [h1, h2] at h; injection h with h; exact ⟨p, q, rfl, rfl, h.symm⟩

theorem fields_eq {d : Nat} {vx vy : List Value} : ∀ (fs : List Field) (off : Nat) (cs : List Nat) (xs ys : List Data) (b : Bool), flatFields P off fs = some cs → kcells cs xs = true → CellsAt w0 S vx off xs → CellsAt w0 S vy off ys → eqCells xs ys = some b →
    (Op.eqFields (d + 1) vx.toArray vy.toArray fs).run P w = .ok b w
  | [], off, cs, xs, ys, b, hf, hk, hx, hy, hb => by
    injection hf with hf; subst hf
    cases xs with
    | nil => cases ys with
      | nil => injection hb with hb; subst hb; simp [Op.eqFields]
      | cons _ _ => cases hb
    | cons _ _ => cases hk
  | f :: fs, off, cs, xs, ys, b, hf, hk, hx, hy, hb => by
    unfold flatFields at hf
    cases h1 : scalarC P f.type with
    | none => rw [h1] at hf; cases hf
    | some c => cases h2 : flatFields P (off + 1) fs with
      | none => rw [h1, h2] at hf; cases hf
      | some l =>
        rw [h1, h2] at hf
        dsimp only at hf
        split at hf
        · rename_i hn
          injection hf with hf; subst hf
          simp only [Bool.and_eq_true, beq_iff_eq] at hn
          obtain ⟨hn, ho⟩ := hn
          cases xs with
          | nil => cases hk
          | cons x xs => cases ys with
            | nil => cases hb
            | cons y ys =>
              obtain ⟨p, q, e1, e2, rfl⟩ := eqCells_cons hb
              simp only [kcells, Bool.and_eq_true] at hk
              obtain ⟨u, u1, u2⟩ := hx 0 x rfl
              obtain ⟨v, v1, v2⟩ := hy 0 y rfl
              rw [Nat.add_zero, ← ho] at u1 v1
              have hne : f.name ≠ "_" := by simpa using hn
              simp only [Op.eqFields, hne, ne_eq, not_false_eq_true, if_true, Sem.run_bind, part_cell h1 u1, part_cell h1 v1, Result.andThen_ok, cell_eq h1 hk.1 u2 v2 e1]
              cases p
              · simp
              · simpa using fields_eq fs (off + 1) l xs ys q h2 hk.2 hx.tail hy.tail e2
        · cases hf

theorem items_eq {e c d : Nat} (hc : scalarC P e = some c) {vx vy : List Value} : ∀ (n off : Nat) (xs ys : List Data) (b : Bool), kcells (List.replicate n c) xs = true → CellsAt w0 S vx off xs → CellsAt w0 S vy off ys → eqCells xs ys = some b →
    (Op.eqItems (d + 1) e 1 vx.toArray vy.toArray (List.range' off n)).run P w = .ok b w
  | 0, off, xs, ys, b, hk, hx, hy, hb => by
    cases xs with
    | nil => cases ys with
      | nil => injection hb with hb; subst hb; simp [Op.eqItems]
      | cons _ _ => cases hb
    | cons _ _ => cases hk
  | n + 1, off, xs, ys, b, hk, hx, hy, hb => by
    cases xs with
    | nil => cases hk
    | cons x xs => cases ys with
      | nil => cases hb
      | cons y ys =>
        obtain ⟨p, q, e1, e2, rfl⟩ := eqCells_cons hb
        rw [List.replicate_succ] at hk
        simp only [kcells, Bool.and_eq_true] at hk
        obtain ⟨u, u1, u2⟩ := hx 0 x rfl
        obtain ⟨v, v1, v2⟩ := hy 0 y rfl
        rw [Nat.add_zero] at u1 v1
        rw [List.range'_succ]
        simp only [Op.eqItems, Sem.run_bind, Nat.mul_one, part_cell hc u1, part_cell hc v1, Result.andThen_ok, cell_eq hc hk.1 u2 v2 e1]
        cases p
        · simp
        · simpa using items_eq hc n (off + 1) xs ys q hk.2 hx.tail hy.tail e2

theorem cellsOf_sizeT {e n : Nat} (h : sizeT P e = some n) : P.cellsOf e = n := by
  obtain ⟨i, hi, he⟩ := Option.map_eq_some_iff.1 h
  unfold Program.cellsOf
  rw [hi]; exact he

theorem kcell_agg (c : Nat) (cs : List Data) : kcell c (.agg cs) = false := by
  cases c with
  | zero => rfl
  | succ c => cases c with
    | zero => rfl
    | succ c => cases c <;> rfl

theorem key_eq {t d : Nat} {kt : KT} {x y : Data} {vx vy : Value} {b : Bool} (ht : keyT P t = some kt) (hk : kt.ok x = true) (hx : DRep w0 S x vx) (hy : DRep w0 S y vy) (hb : eqData x y = some b) : (Op.equalIn (d + 2) t vx vy).run P w = .ok b w := by
  have one : ∀ c, scalarC P t = some c → kt = .one c → (Op.equalIn (d + 2) t vx vy).run P w = .ok b w := by
    intro c hc e
    subst e
    have hk' : kcell c x = true := by cases x <;> exact hk
    have hb' : eqCell x y = some b := by
      cases x with
      | agg cs => rw [kcell_agg] at hk'; cases hk'
      | _ => exact hb
    exact cell_eq hc hk' hx hy hb'
  unfold keyT at ht
  cases hu : P.underlying t with
  | none => rw [hu] at ht; obtain ⟨c, hc, rfl⟩ := Option.map_eq_some_iff.1 ht; exact one c hc rfl
  | some u =>
    rw [hu] at ht
    have agg : ∀ cs, kt = .many cs → ∃ xs ys vxs vys, x = .agg xs ∧ y = .agg ys ∧ vx = .agg (List.toArray vxs) ∧ vy = .agg (List.toArray vys) ∧ kcells cs xs = true ∧ DReps w0 S xs vxs ∧ DReps w0 S ys vys ∧ eqCells xs ys = some b := by
      intro cs e; subst e
      cases x with
      | agg xs =>
        cases y with
        | agg ys =>
          obtain ⟨vxs, e1, _, h1⟩ := hx
          obtain ⟨vys, e2, _, h2⟩ := hy
          exact ⟨xs, ys, vxs, vys, rfl, rfl, e1, e2, hk, h1, h2, hb⟩
        | _ => cases hb
      | _ => cases hk
    cases u with
    | struct fs =>
      dsimp only at ht
      split at ht
      · rename_i hg
        simp only [Bool.and_eq_true, Bool.not_eq_true'] at hg
        obtain ⟨cs, hcs, rfl⟩ := Option.map_eq_some_iff.1 ht
        obtain ⟨xs, ys, vxs, vys, rfl, rfl, rfl, rfl, k1, k2, k3, k4⟩ := agg cs rfl
        have hfs : P.underlying t = some (.struct (P.fieldsOf t)) := by unfold Program.fieldsOf; rw [hu]
        have hf2 : P.fieldsOf t = fs := by unfold Program.fieldsOf; rw [hu]
        rw [run_equalIn_struct w (d + 1) t _ _ hfs hg.1, hf2]
        exact fields_eq fs.toList 0 cs xs ys b hcs k1 (CellsAt.of k2) (CellsAt.of k3) k4
      · cases ht
    | array n e =>
      dsimp only at ht
      cases hc : scalarC P e with
      | none => rw [hc] at ht; cases ht
      | some c =>
        cases hs : sizeT P e with
        | none => rw [hc, hs] at ht; cases ht
        | some m =>
          rw [hc, hs] at ht
          cases m with
          | zero => cases ht
          | succ m => cases m with
            | succ m => cases ht
            | zero =>
              have ht : (if (!P.eqGuardType P.depth t) = true then some (KT.many (List.replicate n c)) else none) = some kt := ht
              split at ht
              · injection ht with ht
                obtain ⟨xs, ys, vxs, vys, rfl, rfl, rfl, rfl, k1, k2, k3, k4⟩ := agg _ ht.symm
                obtain ⟨i, hi, _⟩ := Option.map_eq_some_iff.1 hs
                rw [run_equalIn_array w (d + 1) _ _ hu hi, cellsOf_sizeT hs, List.range_eq_range']
                exact items_eq hc n 0 xs ys b k1 (CellsAt.of k2) (CellsAt.of k3) k4
              · cases ht
    | _ => obtain ⟨c, hc, rfl⟩ := Option.map_eq_some_iff.1 ht; exact one c hc rfl

theorem check_cell {e c n : Nat} {x : Data} {vx : Value} {em : Bool} (hc : scalarC P e = some c) (hk : kcell c x = true) (hx : DRep w0 S x vx) : (Instr.checkKey em (n + 1) e vx).run P w = .ok () w := by
  unfold scalarC at hc
  cases hu : P.underlying e with
  | none => rw [hu] at hc; cases hc
  | some u =>
    rw [hu] at hc
    unfold Instr.checkKey
    simp only [Sem.run_bind, run_underlying hu, Result.andThen_ok]
    cases u <;> first | (cases hc; done) | skip
    all_goals injection hc with hc; subst hc; cases x <;> first | (cases hk; done) | skip
    · have e1 : vx = .bool _ := hx
      subst e1; rfl
    · have e1 : vx = .int _ _ := hx
      subst e1; rfl
    · have e1 : vx = .string _ := hx
      subst e1; rfl

theorem key_check {t n : Nat} {kt : KT} {x : Data} {vx : Value} {em : Bool} (ht : keyT P t = some kt) (hk : kt.ok x = true) (hx : DRep w0 S x vx) : (Instr.checkKey em (n + 2) t vx).run P w = .ok () w := by
  have one : ∀ c, scalarC P t = some c → kt = .one c → (Instr.checkKey em (n + 2) t vx).run P w = .ok () w := by
    intro c hc e
    subst e
    exact check_cell hc (by cases x <;> exact hk) hx
  unfold keyT at ht
  cases hu : P.underlying t with
  | none => rw [hu] at ht; obtain ⟨c, hc, rfl⟩ := Option.map_eq_some_iff.1 ht; exact one c hc rfl
  | some u =>
    rw [hu] at ht
    have agg : ∀ cs, kt = .many cs → ∃ xs vxs, x = .agg xs ∧ vx = .agg (List.toArray vxs) ∧ kcells cs xs = true ∧ CellsAt w0 S vxs 0 xs := by
      intro cs e; subst e
      cases x with
      | agg xs => obtain ⟨vxs, e1, _, h1⟩ := hx; exact ⟨xs, vxs, rfl, e1, hk, CellsAt.of h1⟩
      | _ => cases hk
    cases u with
    | struct fs =>
      dsimp only at ht
      split at ht
      · rename_i hg
        obtain ⟨cs, hcs, rfl⟩ := Option.map_eq_some_iff.1 ht
        obtain ⟨xs, vxs, rfl, rfl, k1, k2⟩ := agg cs rfl
        unfold Instr.checkKey
        simp only [Sem.run_bind, run_underlying hu, Result.andThen_ok]
        rw [← Array.forIn_toList]
        clear hu ht hx hk hg agg one
        generalize fs.toList = L at hcs
        revert hcs k1 k2
        generalize 0 = off
        intro k1 k2 hcs
        induction L generalizing off cs xs with
        | nil => simp
        | cons f L ih =>
          unfold flatFields at hcs
          cases h1 : scalarC P f.type with
          | none => rw [h1] at hcs; cases hcs
          | some c => cases h2 : flatFields P (off + 1) L with
            | none => rw [h1, h2] at hcs; cases hcs
            | some l =>
              rw [h1, h2] at hcs
              dsimp only at hcs
              split at hcs
              · rename_i hn
                injection hcs with hcs; subst hcs
                simp only [Bool.and_eq_true, beq_iff_eq] at hn
                obtain ⟨hn, ho⟩ := hn
                cases xs with
                | nil => cases k1
                | cons x xs =>
                  simp only [kcells, Bool.and_eq_true] at k1
                  obtain ⟨u, u1, u2⟩ := k2 0 x rfl
                  rw [Nat.add_zero, ← ho] at u1
                  have hne : f.name ≠ "_" := by simpa using hn
                  simp only [List.forIn_cons, Sem.run_bind, hne, ne_eq, not_false_eq_true, if_true, Result.andThen_ok, part_cell h1 u1, check_cell h1 k1.1 u2, Sem.run_pure]
                  exact ih l xs (off + 1) k1.2 k2.tail h2
              · cases hcs
      · cases ht
    | array m e =>
      dsimp only at ht
      cases hc : scalarC P e with
      | none => rw [hc] at ht; cases ht
      | some c =>
        cases hs : sizeT P e with
        | none => rw [hc, hs] at ht; cases ht
        | some q =>
          rw [hc, hs] at ht
          cases q with
          | zero => cases ht
          | succ q => cases q with
            | succ q => cases ht
            | zero =>
              have ht2 : (if (!P.eqGuardType P.depth t) = true then some (KT.many (List.replicate m c)) else none) = some kt := ht
              clear ht
              split at ht2
              · injection ht2 with ht2
                obtain ⟨xs, vxs, rfl, rfl, k1, k2⟩ := agg _ ht2.symm
                obtain ⟨i, hi, _⟩ := Option.map_eq_some_iff.1 hs
                unfold Instr.checkKey
                simp only [Sem.run_bind, run_underlying hu, Result.andThen_ok]
                simp only [Std.Legacy.Range.forIn_eq_forIn_range', Std.Legacy.Range.size, Nat.sub_zero, Nat.add_one_sub_one, Nat.div_one]
                clear hu ht2 hx hk agg one
                have hce : P.cellsOf e = 1 := cellsOf_sizeT hs
                revert k1 k2
                generalize 0 = off
                intro k1 k2
                induction m generalizing off xs with
                | zero => simp
                | succ m ih =>
                  cases xs with
                  | nil => cases k1
                  | cons x xs =>
                    rw [List.replicate_succ] at k1
                    simp only [kcells, Bool.and_eq_true] at k1
                    obtain ⟨u, u1, u2⟩ := k2 0 x rfl
                    rw [Nat.add_zero] at u1
                    rw [List.range'_succ]
                    simp only [List.forIn_cons, Sem.run_bind, Go.run_sizeOf w hi, hce, Nat.mul_one, Result.andThen_ok, part_cell hc u1, check_cell hc k1.1 u2, Sem.run_pure]
                    exact ih xs (off + 1) k1.2 k2.tail
              · cases ht2
    | _ => obtain ⟨c, hc, rfl⟩ := Option.map_eq_some_iff.1 ht; exact one c hc rfl
end
end Go.V

set_option linter.unusedVariables false
set_option linter.unusedSimpArgs false
namespace Go.V

def mapIdx (k : Data) : List (Data × Data) → Option (Option Nat)
  | [] => some none
  | (k', _) :: l => match eqData k k' with
    | some true => some (some 0)
    | some false => (mapIdx k l).map (Option.map (· + 1))
    | none => none

theorem mapGet_idx {k : Data} : ∀ {l : List (Data × Data)} {r : Option Data}, mapGet k l = some r → ∃ j, mapIdx k l = some j ∧ r = j.bind fun j => (l[j]?).map (·.2)
  | [], r, h => by injection h with h; subst h; exact ⟨none, rfl, rfl⟩
  | (k', x) :: l, r, h => by
    unfold mapGet at h
    unfold mapIdx
    cases he : eqData k k' with
    | none => rw [he] at h; cases h
    | some b => cases b with
      | true => rw [he] at h; injection h with h; subst h; exact ⟨some 0, rfl, rfl⟩
      | false =>
        rw [he] at h
        obtain ⟨j, h1, h2⟩ := mapGet_idx h
        refine ⟨j.map (· + 1), by rw [h1]; rfl, ?_⟩
        rw [h2]
        cases j <;> rfl
theorem mapPut_idx {k x : Data} : ∀ {l l' : List (Data × Data)}, mapPut k x l = some l' → ∃ j, mapIdx k l = some j ∧ match j with | none => l' = l ++ [(k, x)] | some j => j < l.length ∧ l' = l.set j (k, x)
  | [], l', h => by injection h with h; subst h; exact ⟨none, rfl, rfl⟩
  | (k', x') :: l, l', h => by
    unfold mapPut at h
    unfold mapIdx
    cases he : eqData k k' with
    | none => rw [he] at h; cases h
    | some b => cases b with
      | true => rw [he] at h; injection h with h; subst h; exact ⟨some 0, rfl, by simp, rfl⟩
      | false =>
        rw [he] at h
        obtain ⟨m, h0, rfl⟩ := Option.map_eq_some_iff.1 h
        obtain ⟨j, h1, h2⟩ := mapPut_idx h0
        refine ⟨j.map (· + 1), by rw [h1]; rfl, ?_⟩
        cases j with
        | none => dsimp only at h2; subst h2; rfl
        | some j => obtain ⟨h3, h4⟩ := h2; subst h4; exact ⟨by simpa using h3, rfl⟩
theorem mapDel_idx {k : Data} : ∀ {l l' : List (Data × Data)}, mapDel k l = some l' → ∃ j, mapIdx k l = some j ∧ match j with | none => l' = l | some j => j < l.length ∧ l' = l.eraseIdx j
  | [], l', h => by injection h with h; subst h; exact ⟨none, rfl, rfl⟩
  | (k', x') :: l, l', h => by
    unfold mapDel at h
    unfold mapIdx
    cases he : eqData k k' with
    | none => rw [he] at h; cases h
    | some b => cases b with
      | true => rw [he] at h; injection h with h; subst h; exact ⟨some 0, rfl, by simp, rfl⟩
      | false =>
        rw [he] at h
        obtain ⟨m, h0, rfl⟩ := Option.map_eq_some_iff.1 h
        obtain ⟨j, h1, h2⟩ := mapDel_idx h0
        refine ⟨j.map (· + 1), by rw [h1]; rfl, ?_⟩
        cases j with
        | none => dsimp only at h2; subst h2; rfl
        | some j => obtain ⟨h3, h4⟩ := h2; subst h4; exact ⟨by simpa using h3, rfl⟩

theorem MapRep.get {c : Cx} : ∀ {l : List (Data × Data)} {es : List MapEntry}, MapRep c l es → ∀ {j : Nat} {p : Data × Data}, l[j]? = some p → ∃ e, es[j]? = some e ∧ DRep c.w c.S p.1 e.key ∧ DRep c.w c.S p.2 e.val
  | [], es, h, j, p, hj => by simp at hj
  | (k, x) :: l, es, h, j, p, hj => by
    obtain ⟨e, es', rfl, h1, h2, h3⟩ := h
    cases j with
    | zero => simp at hj; subst hj; exact ⟨e, rfl, h1, h2⟩
    | succ j => exact MapRep.get h3 (by simpa using hj)
theorem MapRep.append {c : Cx} {k x : Data} {e : MapEntry} (hk : DRep c.w c.S k e.key) (hx : DRep c.w c.S x e.val) : ∀ {l : List (Data × Data)} {es : List MapEntry}, MapRep c l es → MapRep c (l ++ [(k, x)]) (es ++ [e])
  | [], es, h => by
    have h' : es = [] := h
    subst h'
    exact ⟨e, [], rfl, hk, hx, rfl⟩
  | (k', x') :: l, es, h => by
    obtain ⟨e', es', rfl, h1, h2, h3⟩ := h
    exact ⟨e', es' ++ [e], rfl, h1, h2, MapRep.append hk hx h3⟩
theorem MapRep.set {c : Cx} {k x : Data} {e : MapEntry} (hk : DRep c.w c.S k e.key) (hx : DRep c.w c.S x e.val) : ∀ {l : List (Data × Data)} {es : List MapEntry} (j : Nat), MapRep c l es → MapRep c (l.set j (k, x)) (es.set j e)
  | [], es, j, h => by
    have h' : es = [] := h
    subst h'
    exact rfl
  | (k', x') :: l, es, 0, h => by
    obtain ⟨e', es', rfl, h1, h2, h3⟩ := h
    exact ⟨e, es', rfl, hk, hx, h3⟩
  | (k', x') :: l, es, j + 1, h => by
    obtain ⟨e', es', rfl, h1, h2, h3⟩ := h
    exact ⟨e', es'.set j e, rfl, h1, h2, MapRep.set hk hx j h3⟩
theorem MapRep.erase {c : Cx} : ∀ {l : List (Data × Data)} {es : List MapEntry} (j : Nat), MapRep c l es → MapRep c (l.eraseIdx j) (es.eraseIdx j)
  | [], es, j, h => by
    have h' : es = [] := h
    subst h'
    exact rfl
  | (k', x') :: l, es, 0, h => by
    obtain ⟨e', es', rfl, h1, h2, h3⟩ := h
    exact h3
  | (k', x') :: l, es, j + 1, h => by
    obtain ⟨e', es', rfl, h1, h2, h3⟩ := h
    exact ⟨e', es'.eraseIdx j, rfl, h1, h2, MapRep.erase j h3⟩

def hitAt (i : Nat) (es : List MapEntry) : Option Nat → Option (Nat × Value)
  | none => none
  | some j => match es[j]? with
    | some e => some (i + j, e.val)
    | none => none

section
variable {P : Program} {w : World} {c : Cx}

theorem asking_run {t : Nat} {kt : KT} {k : Data} {vk : Value} (ht : keyT P t = some kt) (hk : kt.ok k = true) (hv : DRep c.w c.S k vk) : ∀ (l : List (Data × Data)) (es : List MapEntry) (i : Nat) (r : Option Nat), MapRep c l es → mapIdx k l = some r →
    (Instr.findAsking t vk es i).run P w = .ok (hitAt i es r) w
  | [], es, i, r, h, hr => by
    have h' : es = [] := h
    subst h'
    injection hr with hr; subst hr
    rfl
  | (k', x) :: l, es, i, r, h, hr => by
    obtain ⟨e, es', rfl, h1, h2, h3⟩ := h
    unfold mapIdx at hr
    cases he : eqData k k' with
    | none => rw [he] at hr; cases hr
    | some b =>
      have hq := key_eq (w := w) (d := 9998) (P := P) ht hk hv h1 he
      have hq : (Op.equal t vk e.key).run P w = .ok b w := hq
      rw [he] at hr
      unfold Instr.findAsking
      simp only [Sem.run_bind, hq, Result.andThen_ok]
      cases b with
      | true =>
        injection hr with hr; subst hr
        simp [hitAt]
      | false =>
        obtain ⟨j, hj, rfl⟩ := Option.map_eq_some_iff.1 hr
        have := asking_run ht hk hv l es' (i + 1) j h3 hj
        simp only [Bool.false_eq_true, if_false]
        rw [this]
        cases j with
        | none => rfl
        | some j =>
          simp only [hitAt, Option.map_some, List.getElem?_cons_succ]
          cases es'[j]? with
          | none => rfl
          | some e' => simp only; congr 3; omega

theorem sameNow_eq {kind : TypeDesc} {k k' : Data} {vk v' : Value} {b b' : Bool} (h1 : DRep c.w c.S k vk) (h2 : DRep c.w c.S k' v') (hs : Instr.sameNow kind vk v' = some b') (he : eqData k k' = some b) : b' = b := by
  unfold Instr.sameNow at hs
  split at hs
  · rename_i q ki a ki' a'
    have e1 : k = .int ki a := by
      cases k with
      | int p n => have := (show Value.int ki a = .int p n from h1); injection this with t1 t2; subst t1; subst t2; rfl
      | bool _ => cases (show Value.int ki a = .bool _ from h1)
      | str _ => cases (show Value.int ki a = .string _ from h1)
      | sl _ _ => obtain ⟨_, _, q, _⟩ := h1; cases q
      | agg _ => obtain ⟨_, q, _⟩ := h1; cases q
      | _ => cases (show Value.int ki a = _ from h1)
    subst e1
    cases k' with
    | int p n =>
      have := (show Value.int ki' a' = .int p n from h2); injection this with t1 t2; subst t1; subst t2
      obtain ⟨hq, he2⟩ := need_some he
      have := of_decide_eq_true hq; subst this
      rw [if_pos rfl] at hs
      injection hs with hs; injection he2 with he2
      rw [← hs, ← he2, beq_int]
    | _ => cases he
  · rename_i a a'
    have e1 : ∃ l, k = .str l := by
      cases k with
      | str l => exact ⟨l, rfl⟩
      | int _ _ => cases (show Value.string a = .int _ _ from h1)
      | bool _ => cases (show Value.string a = .bool _ from h1)
      | sl _ _ => obtain ⟨_, _, q, _⟩ := h1; cases q
      | agg _ => obtain ⟨_, q, _⟩ := h1; cases q
      | _ => cases (show Value.string a = _ from h1)
    obtain ⟨l, rfl⟩ := e1
    cases k' with
    | str l' =>
      have := (show Value.string a = .string ⟨l.toArray⟩ from h1); injection this with this; subst this
      have := (show Value.string a' = .string ⟨l'.toArray⟩ from h2); injection this with this; subst this
      injection hs with hs; injection he with he
      rw [← hs, ← he, beq_toListBytes, bytes_toList, bytes_toList, beq_bytes]
    | _ => cases he
  · rename_i a a'
    have e1 : k = .bool a := by
      cases k with
      | bool p => have := (show Value.bool a = .bool p from h1); injection this with t1; subst t1; rfl
      | int _ _ => cases (show Value.bool a = .int _ _ from h1)
      | str _ => cases (show Value.bool a = .string _ from h1)
      | sl _ _ => obtain ⟨_, _, q, _⟩ := h1; cases q
      | agg _ => obtain ⟨_, q, _⟩ := h1; cases q
      | _ => cases (show Value.bool a = _ from h1)
    subst e1
    cases k' with
    | bool p =>
      have := (show Value.bool a' = .bool p from h2); injection this with t1; subst t1
      injection hs with hs; injection he with he
      rw [← hs, ← he]
    | _ => cases he
  · cases hs

theorem findNow_eq {kind : TypeDesc} {k : Data} {vk : Value} (hv : DRep c.w c.S k vk) : ∀ (l : List (Data × Data)) (es : List MapEntry) (i : Nat) (r : Option Nat) (r' : Option (Nat × Value)), MapRep c l es → mapIdx k l = some r → Instr.findNow kind vk es i = some r' → r' = hitAt i es r
  | [], es, i, r, r', h, hr, hf => by
    have h' : es = [] := h
    subst h'
    injection hr with hr; subst hr
    injection hf with hf; subst hf
    rfl
  | (k', x) :: l, es, i, r, r', h, hr, hf => by
    obtain ⟨e, es', rfl, h1, h2, h3⟩ := h
    unfold mapIdx at hr
    unfold Instr.findNow at hf
    cases he : eqData k k' with
    | none => rw [he] at hr; cases hr
    | some b =>
      rw [he] at hr
      cases hs : Instr.sameNow kind vk e.key with
      | none => rw [hs] at hf; cases hf
      | some b' =>
        have := sameNow_eq hv h1 hs he
        subst this
        rw [hs] at hf
        cases b' with
        | true =>
          injection hr with hr; subst hr
          injection hf with hf; subst hf
          simp [hitAt]
        | false =>
          obtain ⟨j, hj, rfl⟩ := Option.map_eq_some_iff.1 hr
          have := findNow_eq hv l es' (i + 1) j r' h3 hj hf
          rw [this]
          cases j with
          | none => rfl
          | some j =>
            simp only [hitAt, Option.map_some, List.getElem?_cons_succ]
            cases es'[j]? with
            | none => rfl
            | some e' => simp only; congr 2; omega

theorem find_run {t : Nat} {kt : KT} {k : Data} {vk : Value} {l : List (Data × Data)} {es : List MapEntry} {r : Option Nat} {u : TypeDesc} (hu : P.underlying t = some u) (ht : keyT P t = some kt) (hk : kt.ok k = true) (hv : DRep c.w c.S k vk) (h : MapRep c l es) (hr : mapIdx k l = some r) :
    (Instr.findKey t vk es).run P w = .ok (hitAt 0 es r) w := by
  unfold Instr.findKey
  simp only [Sem.run_bind, run_underlying hu, Result.andThen_ok]
  cases hf : Instr.findNow u vk es 0 with
  | none => exact asking_run ht hk hv l es 0 r h hr
  | some r' => rw [findNow_eq hv l es 0 r r' h hr hf]; rfl

/-! ### the key that stays -/
theorem sameBits_cell {n cc : Nat} {k k' : Data} {v v' : Value} (hc : kcell cc k = true) (h1 : DRep c.w c.S k v) (h2 : DRep c.w c.S k' v') (he : eqCell k k' = some true) : Instr.sameBits n v' v = true := by
  cases k with
  | int p a => cases k' with
    | int p' a' =>
      obtain ⟨hq, he2⟩ := need_some he
      have := of_decide_eq_true hq; subst this
      injection he2 with he2
      have := of_decide_eq_true he2; subst this
      have e1 : v = .int p a := h1
      have e2 : v' = .int p a := h2
      subst e1; subst e2
      cases n <;> simp [Instr.sameBits]
    | _ => cases he
  | bool p => cases k' with
    | bool p' =>
      injection he with he
      have e1 : v = .bool p := h1
      have e2 : v' = .bool p' := h2
      have : p = p' := by simpa using he
      subst e1; subst e2; subst this
      cases n <;> simp [Instr.sameBits]
    | _ => cases he
  | str p => cases k' with
    | str p' =>
      injection he with he
      have e1 : v = .string ⟨p.toArray⟩ := h1
      have e2 : v' = .string ⟨p'.toArray⟩ := h2
      have : p = p' := by simpa using he
      subst e1; subst e2; subst this
      have : ((⟨p.toArray⟩ : ByteArray) == ⟨p.toArray⟩) = true := by rw [beq_toListBytes]; simp
      cases n <;> simp [Instr.sameBits, this]
    | _ => cases he
  | agg _ => rw [kcell_agg] at hc; cases hc
  | _ => unfold kcell at hc; split at hc <;> first | (cases hc; done) | contradiction

theorem sameBits_cells {n : Nat} : ∀ {cs : List Nat} {ks ks' : List Data} {vs vs' : List Value}, kcells cs ks = true → DReps c.w c.S ks vs → DReps c.w c.S ks' vs' → eqCells ks ks' = some true →
    vs'.length = vs.length ∧ ((vs'.zip vs).all fun (x, y) => Instr.sameBits n x y) = true
  | cs, [], ks', vs, vs', hc, h1, h2, he => by
    cases ks' with
    | nil =>
      have e1 : vs = [] := h1
      have e2 : vs' = [] := h2
      subst e1; subst e2
      exact ⟨rfl, rfl⟩
    | cons _ _ => cases he
  | cs, k :: ks, ks', vs, vs', hc, h1, h2, he => by
    cases ks' with
    | nil => cases he
    | cons k' ks' =>
      cases cs with
      | nil => cases hc
      | cons cc cs =>
        simp only [kcells, Bool.and_eq_true] at hc
        obtain ⟨p, q, e1, e2, e3⟩ := eqCells_cons he
        have e3 := e3.symm
        simp only [Bool.and_eq_true] at e3
        obtain ⟨v, vs1, rfl, a1, a2⟩ := h1
        obtain ⟨v', vs2, rfl, b1, b2⟩ := h2
        obtain ⟨i1, i2⟩ := sameBits_cells (n := n) hc.2 a2 b2 (e3.2 ▸ e2)
        have := sameBits_cell (c := c) (n := n) hc.1 a1 b1 (e3.1 ▸ e1)
        exact ⟨by simp [i1], by simp only [List.zip_cons_cons, List.all_cons, this, i2, Bool.and_self]⟩

theorem stays_run {kt : KT} {k k' : Data} {v v' : Value} (hk : kt.ok k = true) (h1 : DRep c.w c.S k v) (h2 : DRep c.w c.S k' v') (he : eqData k k' = some true) : (Instr.keyThatStays v' v).run P w = .ok v w := by
  have hs : Instr.sameBits 10000 v' v = true := by
    cases kt with
    | one cc =>
      have hc : kcell cc k = true := by cases k <;> exact hk
      have he' : eqCell k k' = some true := by
        cases k with
        | agg _ => rw [kcell_agg] at hc; cases hc
        | _ => exact he
      exact sameBits_cell hc h1 h2 he'
    | many cs =>
      cases k with
      | agg ks => cases k' with
        | agg ks' =>
          obtain ⟨vs, rfl, _, a2⟩ := h1
          obtain ⟨vs', rfl, _, b2⟩ := h2
          obtain ⟨i1, i2⟩ := sameBits_cells (c := c) (n := 9999) hk a2 b2 he
          show Instr.sameBits (9999 + 1) _ _ = true
          unfold Instr.sameBits
          simp only [List.size_toArray, i1, beq_self_eq_true, Bool.true_and]
          exact i2
        | _ => cases he
      | _ => cases hk
  unfold Instr.keyThatStays
  rw [if_pos hs]
  rfl

theorem mapIdx_eq {k : Data} : ∀ {l : List (Data × Data)} {j : Nat}, mapIdx k l = some (some j) → ∃ p, l[j]? = some p ∧ eqData k p.1 = some true
  | [], j, h => by cases h
  | (k', x) :: l, j, h => by
    unfold mapIdx at h
    cases he : eqData k k' with
    | none => rw [he] at h; cases h
    | some b => cases b with
      | true => rw [he] at h; injection h with h; injection h with h; subst h; exact ⟨_, rfl, he⟩
      | false =>
        rw [he] at h
        obtain ⟨m, hm, e⟩ := Option.map_eq_some_iff.1 h
        cases m with
        | none => cases e
        | some m =>
          injection e with e; subst e
          obtain ⟨p, h1, h2⟩ := mapIdx_eq hm
          exact ⟨p, by simpa using h1, h2⟩
end
end Go.V

set_option linter.unusedVariables false
set_option linter.unusedSimpArgs false
namespace Go.V
section
variable {gl : GlT} {P : Program} {o : Oper} {a : Act} {w : World} {g : Gh} {ob : Objs} {U : Nat → Prop} {fr : Fr} {base W : Nat} {r : R}

theorem ok_eqd (h : Here gl a w g ob U fr) {x y : Operand} {x' y' : Opd} {t t1 t2 t3 : Nat} {neg : Bool} {op : BinOp} {kt : KT} (ho : o.op = .binOp op t x y t3) (hop : op = if neg then .neq else .eql) (h1 : opd gl P t1 x = some x') (h2 : opd gl P t2 y = some y')
    (hu : (∃ fs, P.underlying t = some (.struct fs)) ∨ ∃ n e, P.underlying t = some (.array n e)) (hk : keyT P t = some kt) (hr : eqdR neg kt (x'.ev fr) (y'.ev fr) = some r) : Runs P o a w (Done w g ob U base W r) := by
  have e1 := h.opd h1
  have e2 := h.opd h2
  generalize x'.ev fr = v1 at hr e1
  generalize y'.ev fr = v2 at hr e2
  cases v1 with
  | d x1 => cases v2 with
    | d x2 =>
      obtain ⟨hok, hr⟩ := need_some hr
      obtain ⟨b, hb, hr⟩ := obind_eq hr
      injection hr with hr; subst hr
      have hq := key_eq (w := w) (d := 9998) hk hok e1 e2 hb
      have hq : (Op.equal t (a.eval x) (a.eval y)).run P w = .ok b w := hq
      have hng : P.eqGuardType P.depth t = false := by
        rcases hu with ⟨fs, hu⟩ | ⟨n, e, hu⟩
        · unfold keyT at hk
          rw [hu] at hk
          dsimp only at hk
          split at hk
          · rename_i hh; simp only [Bool.and_eq_true, Bool.not_eq_true'] at hh; exact hh.2
          · cases hk
        · unfold keyT at hk
          rw [hu] at hk
          dsimp only at hk
          split at hk
          · split at hk
            · rename_i hh; simpa using hh
            · cases hk
          · cases hk
      have hagg : ∃ xs ys, a.eval x = .agg xs ∧ a.eval y = .agg ys := by
        have hm : ∃ cs, kt = .many cs := by
          rcases hu with ⟨fs, hu⟩ | ⟨n, e, hu⟩
          · unfold keyT at hk
            rw [hu] at hk
            dsimp only at hk
            split at hk
            · obtain ⟨cs, _, e⟩ := Option.map_eq_some_iff.1 hk; exact ⟨cs, e.symm⟩
            · cases hk
          · unfold keyT at hk
            rw [hu] at hk
            dsimp only at hk
            split at hk
            · split at hk
              · injection hk with hk; exact ⟨_, hk.symm⟩
              · cases hk
            · cases hk
        obtain ⟨cs, rfl⟩ := hm
        cases x1 with
        | agg l1 => cases x2 with
          | agg l2 =>
            obtain ⟨_, q1, _⟩ := e1
            obtain ⟨_, q2, _⟩ := e2
            exact ⟨_, _, q1, q2⟩
          | _ => cases hb
        | _ => cases hok
      obtain ⟨xs, ys, ex, ey⟩ := hagg
      have hg : ∀ op', (eqGuard op' t x y (a.eval x) (a.eval y)).run P w = .ok () w := by
        intro op'
        rw [ex, ey]
        unfold eqGuard
        cases op' <;> first | rfl | simp [hng]
      refine runs_val h (val := .bool (bcond neg (fun _ => !b) (fun _ => b))) ?_ rfl (fun _ h => by cases h)
      have he : binOp .eql t (a.eval x) (a.eval y) = (do pure (.bool (← Op.equal t (a.eval x) (a.eval y))) : Sem Value) := by rw [ex, ey]; rfl
      have hne : binOp .neq t (a.eval x) (a.eval y) = (do pure (.bool (!(← Op.equal t (a.eval x) (a.eval y)))) : Sem Value) := by rw [ex, ey]; rfl
      subst hop
      cases neg
      · simp only [Bool.false_eq_true, if_false] at ho
        simp only [execOp, ho, Sem.run_bind, hg, Result.andThen_ok, he, hq, Sem.run_pure, bcond]
      · simp only [if_true] at ho
        simp only [execOp, ho, Sem.run_bind, hg, Result.andThen_ok, hne, hq, Sem.run_pure, bcond]
    | _ => cases hr
  | _ => cases hr

theorem zeroD_val {e sz : Nat} {zd : Data} (hz : zeroD P e = some zd) (hs : sizeT P e = some sz) (hf : zeroFit P e zd = true) : ∃ i z, P.info? e = some i ∧ i.zero = some z ∧ ∀ c : Cx, DRep c.w c.S zd z := by
  obtain ⟨i0, z0, hi0, hz0, _⟩ := zeroD_rep (c := ⟨default, fun _ _ => True, fun _ => none, fun _ => 0, fun _ => none⟩) hz hs
  refine ⟨i0, z0, hi0, hz0, fun c => ?_⟩
  obtain ⟨i, z, hi, hzv, _, _, v, hd, hc⟩ := zeroD_rep (c := c) hz hs
  rw [hi0] at hi; injection hi with hi; subst hi
  rw [hz0] at hzv; injection hzv with hzv; subst hzv
  unfold zeroFit at hf
  rw [hi0] at hf
  dsimp only at hf
  rw [hz0] at hf
  cases zd with
  | agg ds =>
    obtain ⟨vs, rfl, h1, h2⟩ := hd
    cases z0 with
    | agg arr =>
      have : vs.toArray = arr := hc
      rw [← this]
      exact ⟨vs, rfl, h1, h2⟩
    | _ => cases hf
  | sl k xs =>
    obtain ⟨A, cap, rfl, h2⟩ := hd
    cases z0 with
    | agg arr => cases hf
    | _ => have hc' := congrArg (fun x : Array Value => x.toList) hc; simp [Value.cells] at hc'; first | (rw [← hc'.1, ← hc'.2.1, ← hc'.2.2]; exact ⟨A, cap, rfl, h2⟩) | skip
  | _ =>
    have hd' := hd
    simp only [DRep] at hd'
    subst hd'
    cases z0 with
    | agg arr => cases hf
    | _ => have hc' := congrArg (fun x : Array Value => x.toList) hc; simp [Value.cells] at hc'; first | exact (by simp [DRep, hc']) | skip

theorem hitAt_none (es : List MapEntry) : hitAt 0 es none = none := rfl
theorem hitAt_some {es : List MapEntry} {j : Nat} {e : MapEntry} (h : es[j]? = some e) : hitAt 0 es (some j) = some (j, e.val) := by simp only [hitAt, h, Nat.zero_add]

theorem lookV_rep {z : Data} {ok : Bool} {r : Option Data} {vv : Value} {c : Cx} (hv : DRep c.w c.S (r.getD z) vv) : VRep c (lookV z ok r) (if ok then .tuple #[vv, .bool r.isSome] else vv) := by
  cases ok with
  | true => exact ⟨[vv, .bool r.isSome], rfl, vv, [.bool r.isSome], rfl, hv, .bool r.isSome, [], rfl, rfl, rfl⟩
  | false => exact hv
theorem lookV_names {z : Data} {ok : Bool} {r : Option Data} : (lookV z ok r).names = [] := by cases ok <;> rfl

theorem ok_look (h : Here gl a w g ob U fr) {m k : Operand} {m' k' : Opd} {t t1 t2 key e : Nat} {kt : KT} {z : Data} {ok : Bool} (ho : o.op = .lookup t m k ok) (hu : P.underlying t = some (.map key e)) (hk : keyT P key = some kt) (hz : zeroD P e = some z)
    (hs : (sizeT P e).isSome = true) (hf : zeroFit P e z = true) (h1 : opd gl P t1 m = some m') (h2 : opd gl P t2 k = some k') (hr : lookR z ok kt ob (m'.ev fr) (k'.ev fr) = some r) : Runs P o a w (Done w g ob U base W r) := by
  have e1 := h.opd h1
  have e2 := h.opd h2
  generalize m'.ev fr = v1 at hr e1
  generalize k'.ev fr = v2 at hr e2
  obtain ⟨sz, hsz⟩ := Option.isSome_iff_exists.1 hs
  obtain ⟨i, zv, hi, hzv, hzr⟩ := zeroD_val hz hsz hf
  have hzero : (zeroValue e).run P w = .ok zv w := by
    unfold zeroValue
    simp only [Sem.run_bind, run_typeInfo w hi, Result.andThen_ok, hzv, Sem.run_pure]
  have hku : ∃ u, P.underlying key = some u := by
    cases hq : P.underlying key with
    | some u => exact ⟨u, rfl⟩
    | none => unfold keyT at hk; rw [hq] at hk; unfold scalarC at hk; rw [hq] at hk; cases hk
  obtain ⟨u, hku⟩ := hku
  cases v1 with
  | mref q => cases v2 with
    | d kd =>
      obtain ⟨hok, hr⟩ := need_some hr
      cases hq : oget ob q with
      | none => rw [hq] at hr; cases hr
      | some x => cases x with
        | map es =>
          rw [hq] at hr
          obtain ⟨rr, hget, hr⟩ := obind_eq hr
          injection hr with hr; subst hr
          obtain ⟨b, hb, em⟩ := e1
          obtain ⟨b', entries, clock, hb', hheap, hrep⟩ := h.good.rep q _ hq
          rw [hb] at hb'; injection hb' with hb'; subst hb'
          have hheap : w.heap[b]? = some (.map entries clock) := hheap
          obtain ⟨j, hj, hrj⟩ := mapGet_idx hget
          have hfind := find_run (P := P) (w := w) (c := cx w g ob) hku hk hok e2 hrep hj
          have hchk := key_check (P := P) (w := w) (n := 9998) (em := entries.isEmpty) hk hok e2
          have hval : ∃ vv, DRep w (cx w g ob).S (rr.getD z) vv ∧ (Instr.lookup t (a.eval m) (a.eval k) ok).run P w = .ok (if ok then .tuple #[vv, .bool rr.isSome] else vv) w := by
            cases j with
            | none =>
              have : rr = none := hrj
              subst this
              refine ⟨zv, hzr (cx w g ob), ?_⟩
              unfold Instr.lookup
              simp only [Sem.run_bind, run_underlying hu, Result.andThen_ok, em, MapKept.run_getObj_map hheap, Sem.run_pure, hchk, hfind, hitAt_none, hzero]
              cases ok <;> rfl
            | some j =>
              have hjs : ∃ p, es[j]? = some p := by obtain ⟨p, hp, _⟩ := mapIdx_eq hj; exact ⟨p, hp⟩
              obtain ⟨p, hp⟩ := hjs
              obtain ⟨en, he1, _, he3⟩ := MapRep.get hrep hp
              have : rr = some p.2 := by rw [hrj]; simp [hp]
              subst this
              refine ⟨en.val, he3, ?_⟩
              unfold Instr.lookup
              simp only [Sem.run_bind, run_underlying hu, Result.andThen_ok, em, MapKept.run_getObj_map hheap, Sem.run_pure, hchk, hfind, hitAt_some he1]
              cases ok <;> rfl
          obtain ⟨vv, hd, hrun⟩ := hval
          refine runs_val h (val := if ok then .tuple #[vv, .bool rr.isSome] else vv) ?_ (lookV_rep (c := cx w g ob) hd) (by rw [lookV_names]; intro n hn; cases hn)
          simp only [execOp, ho, Sem.run_bind, hrun, Result.andThen_ok, Sem.run_pure]
        | _ => rw [hq] at hr; cases hr
    | _ => cases hr
  | d x => cases x with
    | nmap => cases v2 with
      | d kd =>
        obtain ⟨hok, hr⟩ := need_some hr
        injection hr with hr; subst hr
        have em : a.eval m = .map none := e1
        have hfind := find_run (P := P) (w := w) (c := cx w g ob) (l := []) (es := []) hku hk hok e2 rfl rfl
        have hchk := key_check (P := P) (w := w) (n := 9998) (em := (#[] : Array MapEntry).isEmpty) hk hok e2
        have hrun : (Instr.lookup t (a.eval m) (a.eval k) ok).run P w = .ok (if ok then .tuple #[zv, .bool false] else zv) w := by
          unfold Instr.lookup
          simp only [Sem.run_bind, run_underlying hu, Result.andThen_ok, em, Sem.run_pure, hchk]
          rw [hfind]
          simp only [Result.andThen_ok, hitAt_none, Sem.run_bind, hzero, Sem.run_pure]
          try (cases ok <;> rfl)
        refine runs_val h (val := if ok then .tuple #[zv, .bool false] else zv) ?_ (lookV_rep (c := cx w g ob) (r := none) (hzr (cx w g ob))) (by rw [lookV_names]; intro n hn; cases hn)
        simp only [execOp, ho, Sem.run_bind, hrun, Result.andThen_ok, Sem.run_pure]
      | _ => cases hr
    | _ => cases v2 <;> cases hr
  | _ => cases v2 <;> cases hr

theorem set_step (w : World) (b : Nat) (X : Obj) : (∀ k, k ≠ b → (({ w with heap := w.heap.setIfInBounds b X } : World)).heap[k]? = w.heap[k]?) ∧ ({ w with heap := w.heap.setIfInBounds b X } : World).heap.size = w.heap.size ∧
    (b < w.heap.size → ({ w with heap := w.heap.setIfInBounds b X } : World).heap[b]? = some X) := by
  refine ⟨fun k hk => ?_, by simp, fun hb => ?_⟩
  · simp [Array.getElem?_setIfInBounds, Ne.symm hk]
  · simp [Array.getElem?_setIfInBounds, hb]

/-- a map that is written -/
theorem done_map {b : Nat} {q : Nat} {es es' : List (Data × Data)} {entries entries' : Array MapEntry} {clock clock' : Nat} {sh : List Nat} {v : AV} {val : Value} {rd : List Nat} (h : Good w g ob U) (hq : oget ob q = some (.map es)) (hb : g.bl q = some b) (hheap : w.heap[b]? = some (.map entries clock))
    (hrep : MapRep (cx w g (shareUpd ob sh ++ ob)) es' entries'.toList) (hv : ∀ c, VRep c v val) (hn : v.names = []) :
    Done w g ob U base W ⟨v, (q, some (.map es')) :: shareUpd ob sh, rd⟩ val { w with heap := w.heap.setIfInBounds b (.map entries' clock') } := by
  obtain ⟨g1, s1⟩ := shares_step (w := w) (g := g) (U := U) h (shareUpd_shares ob sh)
  obtain ⟨k1, k2, k3⟩ := set_step w b (.map entries' clock')
  have hlt : b < w.heap.size := (Array.getElem?_eq_some_iff.1 hheap).1
  have hq1 : oget (shareUpd ob sh ++ ob) q = some (.map es) := by
    rw [shareUpd_get, hq]
    split <;> rfl
  have hln : lnOf ((q, some (AObj.map es')) :: (shareUpd ob sh ++ ob)) q = lnOf (shareUpd ob sh ++ ob) q := by
    rw [lnOf_cons, if_pos rfl]; unfold lnOf; rw [hq1]
  have hl := mod_later (w' := { w with heap := w.heap.setIfInBounds b (.map entries' clock') }) (x' := .map es') hq1 hb (fun _ => trivial) k1 hln g1
  obtain ⟨g2, s2⟩ := mod_step (w' := { w with heap := w.heap.setIfInBounds b (.map entries' clock') }) (x' := .map es') g1 hq1 hb (fun _ => trivial) k1 k2 rfl rfl rfl hln (fun n hn => by cases hn)
    ⟨b, entries', clock', hb, k3 hlt, MapRep.mono hl.keeps _ _ hrep⟩
  refine ⟨g, g2.mono fun n => .inl, (Step.trans s1 s2 fun _ h => h).mono fun n hn => ?_, hv _, fun n hn' => by rw [hn] at hn'; cases hn'⟩
  rcases hn with hn | hn
  · exact hn.elim
  · subst hn; simp [keysOf]

theorem ok_mupd (h : Here gl a w g ob U fr) {m k x : Operand} {m' k' x' : Opd} {t t1 t2 t3 key e : Nat} {kt : KT} (ho : o.op = .mapUpdate t m k x ∨ o.op = .insert t m k x) (hu : P.underlying t = some (.map key e)) (hk : keyT P key = some kt)
    (h1 : opd gl P t1 m = some m') (h2 : opd gl P t2 k = some k') (h3 : opd gl P t3 x = some x') (hr : mupdR kt ob (m'.ev fr) (k'.ev fr) ((x'.ev fr).toData ob) (x'.ev fr) = some r) : Runs P o a w (Done w g ob U base W r) := by
  have e1 := h.opd h1
  have e2 := h.opd h2
  have e3 := h.opd h3
  generalize m'.ev fr = v1 at hr e1
  generalize k'.ev fr = v2 at hr e2
  generalize x'.ev fr = v3 at hr e3
  have hku : ∃ u, P.underlying key = some u := by
    cases hq : P.underlying key with
    | some u => exact ⟨u, rfl⟩
    | none => unfold keyT at hk; rw [hq] at hk; unfold scalarC at hk; rw [hq] at hk; cases hk
  obtain ⟨u, hku⟩ := hku
  cases v1 with
  | mref q => cases v2 with
    | d kd =>
      cases hxd : v3.toData ob with
      | none => rw [hxd] at hr; cases hr
      | some xd =>
        rw [hxd] at hr
        obtain ⟨hok, hr⟩ := need_some hr
        cases hq : oget ob q with
        | none => rw [hq] at hr; cases hr
        | some y => cases y with
          | map es =>
            rw [hq] at hr
            obtain ⟨es', hput, hr⟩ := obind_eq hr
            injection hr with hr; subst hr
            obtain ⟨b, hb, em⟩ := e1
            obtain ⟨b', entries, clock, hb', hheap, hrep⟩ := h.good.rep q _ hq
            rw [hb] at hb'; injection hb' with hb'; subst hb'
            have hheap : w.heap[b]? = some (.map entries clock) := hheap
            obtain ⟨j, hj, hlj⟩ := mapPut_idx hput
            have hfind := find_run (P := P) (w := w) (c := cx w g ob) hku hk hok e2 hrep hj
            have hchk := key_check (P := P) (w := w) (n := 9998) (em := false) hk hok e2
            have hxr := toData_rep h.good e3 hxd (shareUpd_shares ob v3.shared) (fun n hn => shareUpd_not ob v3.shared n hn)
            have hk1 : Keeps w (cx w g ob).S w (cx w g (shareUpd ob v3.shared ++ ob)).S := (shares_later (U := U) (w := w) (g := g) (shareUpd_shares ob v3.shared)).keeps
            have hrep1 := MapRep.mono (c' := cx w g (shareUpd ob v3.shared ++ ob)) hk1 _ _ hrep
            have hkr := DRep.mono hk1 kd _ e2
            have hrun : ∃ entries' clock', (Instr.mapUpdate t (a.eval m) (a.eval k) (a.eval x)).run P w = .ok () { w with heap := w.heap.setIfInBounds b (.map entries' clock') } ∧ MapRep (cx w g (shareUpd ob v3.shared ++ ob)) es' entries'.toList := by
              cases j with
              | none =>
                dsimp only at hlj
                subst hlj
                refine ⟨entries.push ⟨a.eval k, a.eval x, clock⟩, clock + 1, ?_, ?_⟩
                · unfold Instr.mapUpdate
                  simp only [Sem.run_bind, run_underlying hu, Result.andThen_ok, em, MapKept.run_getObj_map hheap, hchk, hfind, hitAt_none, MapKept.run_setObj_map _ hheap]
                · rw [Array.toList_push]
                  exact MapRep.append (c := cx w g (shareUpd ob v3.shared ++ ob)) (e := ⟨a.eval k, a.eval x, clock⟩) hkr hxr hrep1
              | some j =>
                obtain ⟨hjl, hlj⟩ := hlj
                subst hlj
                obtain ⟨p, hp, hpe⟩ := mapIdx_eq hj
                obtain ⟨en, he1, he2, he3⟩ := MapRep.get hrep hp
                have hstay := stays_run (P := P) (w := w) (c := cx w g ob) hok e2 he2 hpe
                have hget : entries[j]? = some en := by rw [← Array.getElem?_toList]; exact he1
                refine ⟨entries.modify j fun e => { e with key := a.eval k, val := a.eval x }, clock, ?_, ?_⟩
                · unfold Instr.mapUpdate
                  simp only [Sem.run_bind, run_underlying hu, Result.andThen_ok, em, MapKept.run_getObj_map hheap, hchk, hfind, hitAt_some he1, hget, Option.map_some, Option.getD_some, hstay, MapKept.run_setObj_map _ hheap]
                · have hml : (entries.modify j fun e => { e with key := a.eval k, val := a.eval x }).toList = entries.toList.set j { en with key := a.eval k, val := a.eval x } := by
                    apply List.ext_getElem?
                    intro n
                    rw [Array.getElem?_toList, Array.getElem?_modify, List.getElem?_set]
                    have hjs : j < entries.toList.length := (List.getElem?_eq_some_iff.1 he1).1
                    by_cases hnj : j = n
                    · subst hnj
                      rw [if_pos rfl, if_pos rfl, if_pos hjs, hget]; rfl
                    · rw [if_neg hnj, if_neg hnj, Array.getElem?_toList]
                  rw [hml]
                  exact MapRep.set (c := cx w g (shareUpd ob v3.shared ++ ob)) (e := { en with key := a.eval k, val := a.eval x }) hkr hxr j hrep1
            obtain ⟨entries', clock', hrun, hrep2⟩ := hrun
            refine .inr (.inl ⟨_, ?_, done_map (clock' := clock') h.good hq hb hheap hrep2 (fun _ => trivial) rfl⟩)
            rcases ho with ho | ho <;> simp only [execOp, ho, Sem.run_bind, hrun, Result.andThen_ok, Sem.run_pure]
          | _ => rw [hq] at hr; cases hr
    | _ => cases hr
  | _ => cases hr

theorem ok_delete (h : Here gl a w g ob U fr) {m k : Operand} {m' k' : Opd} {t t' t1 t2 key e : Nat} {kt : KT} (ho : o.op = .call { callee := .builtin .delete, args := #[m, k], argTypes := #[t, t'] }) (hu : P.underlying t = some (.map key e)) (hk : keyT P key = some kt)
    (h1 : opd gl P t1 m = some m') (h2 : opd gl P t2 k = some k') (hr : deleteR kt ob (m'.ev fr) (k'.ev fr) = some r) : Runs P o a w (Done w g ob U base W r) := by
  have e1 := h.opd h1
  have e2 := h.opd h2
  generalize m'.ev fr = v1 at hr e1
  generalize k'.ev fr = v2 at hr e2
  have hku : ∃ u, P.underlying key = some u := by
    cases hq : P.underlying key with
    | some u => exact ⟨u, rfl⟩
    | none => unfold keyT at hk; rw [hq] at hk; unfold scalarC at hk; rw [hq] at hk; cases hk
  obtain ⟨u, hku⟩ := hku
  cases v1 with
  | mref q => cases v2 with
    | d kd =>
      obtain ⟨hok, hr⟩ := need_some hr
      cases hq : oget ob q with
      | none => rw [hq] at hr; cases hr
      | some y => cases y with
        | map es =>
          rw [hq] at hr
          obtain ⟨es', hdel, hr⟩ := obind_eq hr
          injection hr with hr; subst hr
          obtain ⟨b, hb, em⟩ := e1
          obtain ⟨b', entries, clock, hb', hheap, hrep⟩ := h.good.rep q _ hq
          rw [hb] at hb'; injection hb' with hb'; subst hb'
          have hheap : w.heap[b]? = some (.map entries clock) := hheap
          obtain ⟨j, hj, hlj⟩ := mapDel_idx hdel
          have hfind := find_run (P := P) (w := w) (c := cx w g ob) hku hk hok e2 hrep hj
          have hchk := key_check (P := P) (w := w) (n := 9998) (em := entries.isEmpty) hk hok e2
          have hrun : ∃ entries' clock', (Builtin.delete_ #[t, t'] o.type (#[m, k].map a.eval)).run P w = .ok (.tuple #[]) { w with heap := w.heap.setIfInBounds b (.map entries' clock') } ∧ MapRep (cx w g (shareUpd ob [] ++ ob)) es' entries'.toList := by
            cases j with
            | none =>
              dsimp only at hlj
              subst hlj
              refine ⟨entries, clock, ?_, hrep⟩
              unfold Builtin.delete_
              simp only [Sem.run_bind, List.map_toArray, List.map_cons, List.map_nil, List.getElem?_toArray, List.getElem?_cons_zero, List.getElem?_cons_succ, run_underlying hu, Result.andThen_ok, em, MapKept.run_getObj_map hheap, hchk, hfind, hitAt_none, MapKept.run_setObj_map _ hheap, Sem.run_pure]
            | some j =>
              obtain ⟨hjl, hlj⟩ := hlj
              subst hlj
              obtain ⟨p, hp, hpe⟩ := mapIdx_eq hj
              obtain ⟨en, he1, he2, he3⟩ := MapRep.get hrep hp
              refine ⟨entries.eraseIdxIfInBounds j, clock, ?_, ?_⟩
              · unfold Builtin.delete_
                simp only [Sem.run_bind, List.map_toArray, List.map_cons, List.map_nil, List.getElem?_toArray, List.getElem?_cons_zero, List.getElem?_cons_succ, run_underlying hu, Result.andThen_ok, em, MapKept.run_getObj_map hheap, hchk, hfind, hitAt_some he1, MapKept.run_setObj_map _ hheap, Sem.run_pure]
              · have hml : (entries.eraseIdxIfInBounds j).toList = entries.toList.eraseIdx j := by simp
                rw [hml]
                exact MapRep.erase j hrep
          obtain ⟨entries', clock', hrun, hrep2⟩ := hrun
          refine .inl ⟨.tuple #[], _, ?_, done_map (sh := []) (clock' := clock') h.good hq hb hheap hrep2 (fun _ => ⟨[], rfl, rfl⟩) rfl⟩
          exact run_builtin (s := Builtin.delete_ #[t, t'] o.type (#[m, k].map a.eval)) ho (fun _ => rfl) hrun
        | _ => rw [hq] at hr; cases hr
    | _ => cases hr
  | _ => cases hr
end
end Go.V

set_option linter.unusedVariables false
set_option linter.unusedSimpArgs false
namespace Go.V

/-- other names -/
structure RenOk (c c' : Cx) (ρ : Nat → Option Nat) : Prop where
  keeps : Keeps c.w c.S c'.w c'.S
  bl : ∀ o j, ρ o = some j → c'.bl j = c.bl o
  cp : ∀ o j, ρ o = some j → c'.cp j = c.cp o
  ln : ∀ o j sz n, ρ o = some j → c'.ln j = some (sz, n) → c.ln o = some (sz, n)

theorem ownVal_congr' {bl bl' : Nat → Option Nat} {cp cp' : Nat → Nat} {o j n : Nat} (h : bl' j = bl o) (k : cp' j = cp o) : ownVal bl' cp' j n = ownVal bl cp o n := by
  unfold ownVal; rw [h, k]

mutual
theorem VRep.ren {c c' : Cx} {ρ : Nat → Option Nat} (h : RenOk c c' ρ) : ∀ (a : AV) (v : Value), VRep c a v → VRep c' (a.ren ρ) v
  | .any, _, _ => trivial
  | .d x, v, hr => DRep.mono h.keeps x v hr
  | .agg cs, v, hr => by
    obtain ⟨vs, rfl, h1, hv⟩ := hr
    exact ⟨vs, rfl, h1, VReps.ren h cs vs hv⟩
  | .tup cs, v, hr => by
    obtain ⟨vs, rfl, hv⟩ := hr
    exact ⟨vs, rfl, VReps.ren h cs vs hv⟩
  | .nils _, _, hr => hr
  | .nn nb sz xs, v, hr => ⟨hr.1, DRep.mono h.keeps (.sl sz xs) v hr.2⟩
  | .lim sz xs, v, hr => by
    obtain ⟨A, rfl, he⟩ := hr
    refine ⟨A, rfl, fun hx => ?_⟩
    obtain ⟨b, off, hA, hel⟩ := he hx
    exact ⟨b, off, hA, Elems.mono h.keeps sz b off xs hel⟩
  | .own o, v, hr => by
    show VRep c' (orAny (ρ o) .own) v
    cases hρ : ρ o with
    | none => exact trivial
    | some j =>
      refine ⟨hr.1, fun sz n hl => ?_⟩
      rw [hr.2 sz n (h.ln o j sz n hρ hl)]
      exact (ownVal_congr' (h.bl o j hρ) (h.cp o j hρ)).symm
  | .ptr o off, v, hr => by
    show VRep c' (orAny (ρ o) (.ptr · off)) v
    cases hρ : ρ o with
    | none => exact trivial
    | some j =>
      obtain ⟨b, hb, hv⟩ := hr
      exact ⟨b, (h.bl o j hρ).trans hb, hv⟩
  | .eptr cs, v, hr => by
    obtain ⟨b, off, hv, hc⟩ := hr
    refine ⟨b, off, hv, fun j x hj => ?_⟩
    obtain ⟨u, h1, h2, h3, h4⟩ := hc j x hj
    exact ⟨u, (h.keeps b (off + j) u h2 h1).1, (h.keeps b (off + j) u h2 h1).2, DRep.mono h.keeps x u h3, h4⟩
  | .optr o i off, v, hr => by
    show VRep c' (orAny (ρ o) (.optr · i off)) v
    cases hρ : ρ o with
    | none => exact trivial
    | some j =>
      refine ⟨hr.1, fun sz n hl => ?_⟩
      obtain ⟨b, hb, hv⟩ := hr.2 sz n (h.ln o j sz n hρ hl)
      exact ⟨b, (h.bl o j hρ).trans hb, hv⟩
  | .clos f cap, v, hr => by
    obtain ⟨vs, rfl, hv⟩ := hr
    exact ⟨vs, rfl, VReps.ren h cap vs hv⟩
  | .mref o, v, hr => by
    show VRep c' (orAny (ρ o) .mref) v
    cases hρ : ρ o with
    | none => exact trivial
    | some j =>
      obtain ⟨b, hb, hv⟩ := hr
      exact ⟨b, (h.bl o j hρ).trans hb, hv⟩
  | .gptr _ _, _, hr => hr
theorem VReps.ren {c c' : Cx} {ρ : Nat → Option Nat} (h : RenOk c c' ρ) : ∀ (l : List AV) (vs : List Value), VReps c l vs → VReps c' (renL ρ l) vs
  | [], _, hr => hr
  | a :: l, vs, hr => by
    obtain ⟨v, vs', rfl, h1, h2⟩ := hr
    exact ⟨v, vs', rfl, VRep.ren h a v h1, VReps.ren h l vs' h2⟩
end

mutual
theorem ren_names {ρ : Nat → Option Nat} : ∀ (a : AV) (n : Nat), n ∈ (a.ren ρ).names → ∃ o ∈ a.names, ρ o = some n
  | .any, _, h => by cases h
  | .d x, _, h => by cases h
  | .agg cs, n, h => renL_names cs n h
  | .tup cs, n, h => renL_names cs n h
  | .nils _, _, h => by cases h
  | .lim _ _, _, h => by cases h
  | .nn _ _ _, _, h => by cases h
  | .own o, n, h => by
    have h' : n ∈ (orAny (ρ o) .own).names := h
    cases hρ : ρ o with
    | none => rw [hρ] at h'; cases h'
    | some j => rw [hρ] at h'; exact ⟨o, List.mem_singleton.2 rfl, by rw [hρ]; exact congrArg some (List.mem_singleton.1 h').symm⟩
  | .ptr o off, n, h => by
    have h' : n ∈ (orAny (ρ o) (.ptr · off)).names := h
    cases hρ : ρ o with
    | none => rw [hρ] at h'; cases h'
    | some j => rw [hρ] at h'; exact ⟨o, List.mem_singleton.2 rfl, by rw [hρ]; exact congrArg some (List.mem_singleton.1 h').symm⟩
  | .eptr _, _, h => by cases h
  | .optr o i off, n, h => by
    have h' : n ∈ (orAny (ρ o) (.optr · i off)).names := h
    cases hρ : ρ o with
    | none => rw [hρ] at h'; cases h'
    | some j => rw [hρ] at h'; exact ⟨o, List.mem_singleton.2 rfl, by rw [hρ]; exact congrArg some (List.mem_singleton.1 h').symm⟩
  | .clos f cap, n, h => renL_names cap n h
  | .mref o, n, h => by
    have h' : n ∈ (orAny (ρ o) .mref).names := h
    cases hρ : ρ o with
    | none => rw [hρ] at h'; cases h'
    | some j => rw [hρ] at h'; exact ⟨o, List.mem_singleton.2 rfl, by rw [hρ]; exact congrArg some (List.mem_singleton.1 h').symm⟩
  | .gptr _ _, _, h => by cases h
theorem renL_names {ρ : Nat → Option Nat} : ∀ (l : List AV) (n : Nat), n ∈ namesL (renL ρ l) → ∃ o ∈ namesL l, ρ o = some n
  | [], _, h => by cases h
  | a :: l, n, h => by
    rcases List.mem_append.1 (show n ∈ (a.ren ρ).names ++ namesL (renL ρ l) from h) with h | h
    · obtain ⟨o, h1, h2⟩ := ren_names a n h; exact ⟨o, List.mem_append.2 (.inl h1), h2⟩
    · obtain ⟨o, h1, h2⟩ := renL_names l n h; exact ⟨o, List.mem_append.2 (.inr h1), h2⟩
end

theorem AObj.ren_names {ρ : Nat → Option Nat} (x : AObj) (n : Nat) (h : n ∈ (x.ren ρ).names) : ∃ o ∈ x.names, ρ o = some n := by
  cases x with
  | box cs => exact renL_names cs n h
  | arr _ _ _ => cases h
  | map _ => cases h

theorem objMut_ren {ρ : Nat → Option Nat} (x : AObj) (off : Nat) : objMut (x.ren ρ) off ↔ objMut x off := by cases x <;> exact Iff.rfl

theorem ObRep.ren {c c' : Cx} {ρ : Nat → Option Nat} (h : RenOk c c' ρ) {o j : Nat} {x : AObj} (hbl : c'.bl j = c.bl o) (hcp : c'.cp j = c.cp o) (hw : ∀ b, c.bl o = some b → c'.w.heap[b]? = c.w.heap[b]?) (hr : ObRep c o x) : ObRep c' j (x.ren ρ) := by
  cases x with
  | box cs =>
    obtain ⟨b, t, vs, h1, h2, h0, h3⟩ := hr
    exact ⟨b, t, vs, hbl.trans h1, (hw b h1).trans h2, h0, VReps.ren h cs vs h3⟩
  | arr sz xs u =>
    rcases hr with ⟨h1, h2⟩ | ⟨b, arr, t, h1, h2, h3, h4, h5, h6⟩
    · exact .inl ⟨hbl.trans h1, h2⟩
    · exact .inr ⟨b, arr, t, hbl.trans h1, (hw b h1).trans h2, by rw [hcp]; exact h3, by rw [hcp]; exact h4, h5, InArr.mono h.keeps sz arr 0 xs h6⟩
  | map es =>
    obtain ⟨b, entries, clock, h1, h2, h3⟩ := hr
    exact ⟨b, entries, clock, hbl.trans h1, (hw b h1).trans h2, MapRep.mono h.keeps es _ h3⟩

/-- the ghosts, taken over -/
def pull (g : Gh) (σ : Nat → Option Nat) (al : Nat → Nat → Prop) : Gh := ⟨fun j => (σ j).bind g.bl, fun j => ((σ j).map g.cp).getD 0, al⟩

theorem lnOf_some {ob : Objs} {o sz n : Nat} (h : lnOf ob o = some (sz, n)) : ∃ xs u, oget ob o = some (.arr sz xs u) ∧ xs.length = n := by
  unfold lnOf at h
  cases hx : oget ob o with
  | none => rw [hx] at h; cases h
  | some x => cases x with
    | arr sz' xs u => rw [hx] at h; injection h with h; injection h with h1 h2; subst h1; exact ⟨xs, u, rfl, h2⟩
    | _ => rw [hx] at h; cases h
theorem lnOf_of {ob : Objs} {o sz : Nat} {xs : List Data} {u : Bool} (h : oget ob o = some (.arr sz xs u)) : lnOf ob o = some (sz, xs.length) := by
  unfold lnOf; rw [h]

theorem ren_arr {ρ : Nat → Option Nat} {x : AObj} {sz : Nat} {xs : List Data} {u : Bool} (h : x.ren ρ = .arr sz xs u) : x = .arr sz xs u := by
  cases x with
  | arr _ _ _ => exact h
  | box _ => cases h
  | map _ => exact h

structure Names (ob ob' : Objs) (ρ σ : Nat → Option Nat) : Prop where
  ob : ∀ j x', oget ob' j = some x' → ∃ o x, σ j = some o ∧ oget ob o = some x ∧ x' = x.ren ρ
  inv : ∀ o j, ρ o = some j → σ j = some o
  inj : ∀ j j' o, σ j = some o → σ j' = some o → j = j'

theorem Names.renOk {w : World} {g : Gh} {ob ob' : Objs} {ρ σ : Nat → Option Nat} (h : Names ob ob' ρ σ) {al : Nat → Nat → Prop} (hal : ∀ b off, (cx w g ob).S b off → al b off) : RenOk (cx w g ob) (cx w (pull g σ al) ob') ρ := by
  refine ⟨fun b off u hs hu => ⟨hu, hal b off hs, ?_⟩, fun o j hj => ?_, fun o j hj => ?_, fun o j sz n hj hl => ?_⟩
  · rintro ⟨j, x', hx', hb, hm⟩
    obtain ⟨o, x, h1, h2, rfl⟩ := h.ob j x' hx'
    have hb' : (σ j).bind g.bl = some b := hb
    rw [h1] at hb'
    exact hs.2 ⟨o, x, h2, hb', (objMut_ren x off).1 hm⟩
  · show (σ j).bind g.bl = g.bl o
    rw [h.inv o j hj]; rfl
  · show ((σ j).map g.cp).getD 0 = g.cp o
    rw [h.inv o j hj]; rfl
  · obtain ⟨xs, u, hx, rfl⟩ := lnOf_some hl
    obtain ⟨o', x, h1, h2, h3⟩ := h.ob j _ hx
    rw [h.inv o j hj] at h1
    injection h1 with h1; subst h1
    have := ren_arr h3.symm
    subst this
    exact lnOf_of h2

theorem Names.good {w : World} {g : Gh} {ob ob' : Objs} {ρ σ : Nat → Option Nat} {U U' : Nat → Prop} (h : Names ob ob' ρ σ) (hg : Good w g ob U) {al : Nat → Nat → Prop} (hal : ∀ b off, (cx w g ob).S b off → al b off)
    (hfresh : ∀ b off, w.heap.size ≤ b → al b off) (hown : ∀ j o b, σ j = some o → oget ob' j ≠ none → g.bl o = some b → ∀ off, al b off) (hU : ∀ j x', oget ob' j = some x' → U' j ∧ NamesIn U' x'.names) : Good w (pull g σ al) ob' U' := by
  have hr := h.renOk (w := w) (g := g) hal
  refine ⟨fun j x' hx' => ?_, fun j j' x x' b hj hj' h1 h2 => ?_, hU, hfresh, fun j x' b hx' hb => ?_⟩
  · obtain ⟨o, x, h1, h2, rfl⟩ := h.ob j x' hx'
    exact ObRep.ren hr (by show (σ j).bind g.bl = _; rw [h1]; rfl) (by show ((σ j).map g.cp).getD 0 = _; rw [h1]; rfl) (fun _ _ => rfl) (hg.rep o x h2)
  · obtain ⟨o, y, a1, a2, _⟩ := h.ob j x hj
    obtain ⟨o', y', b1, b2, _⟩ := h.ob j' x' hj'
    have e1 : g.bl o = some b := by
      have h1' : (σ j).bind g.bl = some b := h1
      rw [a1] at h1'; exact h1'
    have e2 : g.bl o' = some b := by
      have h2' : (σ j').bind g.bl = some b := h2
      rw [b1] at h2'; exact h2'
    have := hg.inj o o' y y' b a2 b2 e1 e2
    subst this
    exact h.inj j j' o a1 b1
  · obtain ⟨o, x, h1, h2, rfl⟩ := h.ob j x' hx'
    have hb' : (σ j).bind g.bl = some b := hb
    rw [h1] at hb'
    exact hown j o b h1 (by rw [hx']; simp) hb'

theorem pull_at {g : Gh} {σ : Nat → Option Nat} {al : Nat → Nat → Prop} {j o : Nat} (h : σ j = some o) : (pull g σ al).bl j = g.bl o ∧ (pull g σ al).cp j = g.cp o := by
  constructor
  · show (σ j).bind g.bl = _; rw [h]; rfl
  · show ((σ j).map g.cp).getD 0 = _; rw [h]; rfl

/-- a step, seen under other names that keep the first ones -/
theorem Names.step {w0 w : World} {g0 g : Gh} {ob0 ob ob' : Objs} {ρ σ : Nat → Option Nat} {m : Nat} {K : Nat → Prop} (h : Names ob ob' ρ σ) (hs : Step w0 g0 ob0 w g ob (· < m) K)
    (hlow : ∀ j, j < m → ρ j = some j) (hhigh : ∀ j o, σ j = some o → o < m → j < m) : Step w0 g0 ob0 w (pull g σ g.al) ob' (· < m) K := by
  have hr := h.renOk (w := w) (g := g) (al := g.al) (fun b off hs => hs.1)
  have hσ : ∀ j, j < m → σ j = some j := fun j hj => h.inv j j (hlow j hj)
  refine ⟨⟨hs.later.keeps.trans hr.keeps, fun o ho => ?_, fun o ho => ?_, fun o sz n ho hl => hs.later.ln o sz n ho (hr.ln o o sz n (hlow o ho) hl)⟩, fun o ho hx => ?_, hs.chg, fun o ho hx b hb => ?_, hs.size, hs.os, hs.tape, hs.output, hs.al⟩
  · exact ((pull_at (g := g) (al := g.al) (hσ o ho)).1).trans (hs.later.bl o ho)
  · exact ((pull_at (g := g) (al := g.al) (hσ o ho)).2).trans (hs.later.cp o ho)
  · obtain ⟨x', hx'⟩ := Option.ne_none_iff_exists'.1 hx
    obtain ⟨o', x, h1, h2, _⟩ := h.ob o x' hx'
    rw [hσ o ho] at h1; injection h1 with h1; subst h1
    exact hs.old o ho (by rw [h2]; simp)
  · obtain ⟨x', hx'⟩ := Option.ne_none_iff_exists'.1 hx
    obtain ⟨o', x, h1, h2, _⟩ := h.ob o x' hx'
    refine hs.new o' (fun hlt => ho (hhigh o o' h1 hlt)) (by rw [h2]; simp) b ?_
    exact ((pull_at (g := g) (al := g.al) h1).1).symm.trans hb
end Go.V

set_option linter.unusedVariables false
set_option linter.unusedSimpArgs false
namespace Go.V

/-! ### lists of names -/
theorem idxOf_get : ∀ {l : List Nat} {o j : Nat}, idxOf o l = some j → l[j]? = some o
  | [], o, j, h => by cases h
  | x :: l, o, j, h => by
    unfold idxOf at h
    cases hb : Nat.beq x o with
    | true => rw [hb] at h; injection h with h; subst h; rw [Nat.eq_of_beq_eq_true hb]; rfl
    | false =>
      rw [hb] at h
      obtain ⟨i, hi, rfl⟩ := Option.map_eq_some_iff.1 h
      simpa using idxOf_get hi
theorem idxOf_mem : ∀ {l : List Nat} {o : Nat}, o ∈ l → ∃ j, idxOf o l = some j
  | x :: l, o, h => by
    unfold idxOf
    cases hb : Nat.beq x o with
    | true => exact ⟨0, rfl⟩
    | false =>
      have : o ∈ l := by
        rcases List.mem_cons.1 h with e | h
        · subst e; rw [Nat.beq_refl] at hb; cases hb
        · exact h
      obtain ⟨j, hj⟩ := idxOf_mem this
      exact ⟨j + 1, by rw [hj]; rfl⟩

theorem reach_nodup (ob : Objs) : ∀ (fuel : Nat) (todo seen : List Nat), seen.Nodup → (reach ob fuel todo seen).Nodup
  | 0, _, _, h => h
  | _ + 1, [], _, h => h
  | n + 1, o :: todo, seen, h => by
    unfold reach
    cases hm : mem o seen with
    | true => exact reach_nodup ob n todo seen h
    | false =>
      cases hx : oget ob o with
      | none => exact reach_nodup ob n todo seen h
      | some x =>
        refine reach_nodup ob n _ _ ?_
        rw [List.nodup_append]
        refine ⟨h, by simp, fun a ha b hb => ?_⟩
        rw [List.mem_singleton.1 hb]
        intro e
        subst e
        have := (mem_iff a seen).2 ha
        rw [hm] at this; cases this
theorem reach_some (ob : Objs) : ∀ (fuel : Nat) (todo seen : List Nat), (∀ o ∈ seen, oget ob o ≠ none) → ∀ o ∈ reach ob fuel todo seen, oget ob o ≠ none
  | 0, _, _, h => h
  | _ + 1, [], _, h => h
  | n + 1, o :: todo, seen, h => by
    unfold reach
    cases hm : mem o seen with
    | true => exact reach_some ob n todo seen h
    | false =>
      cases hx : oget ob o with
      | none => exact reach_some ob n todo seen h
      | some x =>
        refine reach_some ob n _ _ fun a ha => ?_
        rcases List.mem_append.1 ha with ha | ha
        · exact h a ha
        · rw [List.mem_singleton.1 ha, hx]; simp

theorem localsOf_mem {m : Nat} : ∀ {l : List Nat} {o : Nat}, o ∈ localsOf m l → m ≤ o ∧ o ∈ l
  | [], o, h => by cases h
  | x :: l, o, h => by
    unfold localsOf at h
    cases hb : Nat.ble m x with
    | true =>
      rw [hb] at h
      rcases List.mem_cons.1 h with e | h
      · subst e; exact ⟨Nat.le_of_ble_eq_true hb, List.mem_cons_self⟩
      · obtain ⟨h1, h2⟩ := localsOf_mem h; exact ⟨h1, List.mem_cons_of_mem _ h2⟩
    | false => rw [hb] at h; obtain ⟨h1, h2⟩ := localsOf_mem h; exact ⟨h1, List.mem_cons_of_mem _ h2⟩
theorem localsOf_nodup {m : Nat} : ∀ {l : List Nat}, l.Nodup → (localsOf m l).Nodup
  | [], h => h
  | x :: l, h => by
    obtain ⟨h1, h2⟩ := List.nodup_cons.1 h
    unfold localsOf
    cases hb : Nat.ble m x with
    | true => exact List.nodup_cons.2 ⟨fun hx => h1 (localsOf_mem hx).2, localsOf_nodup h2⟩
    | false => exact localsOf_nodup h2
theorem upTo_length : ∀ m, (upTo m).length = m
  | 0 => rfl
  | m + 1 => by unfold upTo; rw [List.length_append, upTo_length m]; rfl
theorem upTo_get : ∀ (m j : Nat), (upTo m)[j]? = if j < m then some j else none
  | 0, j => by simp [upTo]
  | m + 1, j => by
    unfold upTo
    rw [List.getElem?_append, upTo_length, upTo_get m j]
    by_cases h : j < m
    · rw [if_pos h, if_pos h, if_pos (by omega)]
    · rw [if_neg h]
      by_cases h2 : j = m
      · subst h2; simp
      · rw [if_neg (by omega)]
        rw [List.getElem?_eq_none (by simp; omega)]

theorem subObjs_get (ob : Objs) (ρ : Nat → Option Nat) : ∀ (l : List Nat) (i j : Nat), oget (subObjs ob ρ i l) j = if i ≤ j then (l[j - i]?).bind fun o => (oget ob o).map (AObj.ren ρ) else none
  | [], i, j => by simp [subObjs, oget]
  | o :: l, i, j => by
    unfold subObjs
    rw [oget_cons, subObjs_get ob ρ l (i + 1) j]
    by_cases h : i = j
    · subst h; simp
    · rw [if_neg h]
      by_cases h2 : i ≤ j
      · rw [if_pos (by omega), if_pos h2, show j - i = (j - (i + 1)) + 1 by omega, List.getElem?_cons_succ]
      · rw [if_neg (by omega), if_neg h2]

theorem get_inj {l : List Nat} (h : l.Nodup) {i j : Nat} {o : Nat} (hi : l[i]? = some o) (hj : l[j]? = some o) : i = j := by
  obtain ⟨h1, e1⟩ := List.getElem?_eq_some_iff.1 hi
  obtain ⟨h2, e2⟩ := List.getElem?_eq_some_iff.1 hj
  exact (List.getElem_inj h (h₀ := h1) (h₁ := h2)).1 (e1.trans e2.symm)

/-! ### the names of a canonical state -/
def canonInv (m : Nat) (locals : List Nat) (j : Nat) : Option Nat := if j < m then some j else locals[j - m]?

theorem canonRho_low {m : Nat} {locals : List Nat} {o : Nat} (h : o < m) : canonRho m locals o = some o := by
  unfold canonRho
  cases hb : Nat.ble m o with
  | true => have := Nat.le_of_ble_eq_true hb; omega
  | false => rfl
theorem canonRho_inv {m : Nat} {locals : List Nat} {o j : Nat} (h : canonRho m locals o = some j) : canonInv m locals j = some o ∧ j < m + locals.length := by
  unfold canonRho at h
  cases hb : Nat.ble m o with
  | true =>
    rw [hb] at h
    obtain ⟨i, hi, rfl⟩ := Option.map_eq_some_iff.1 h
    have := idxOf_get hi
    have hl := (List.getElem?_eq_some_iff.1 this).1
    unfold canonInv
    rw [if_neg (by omega), Nat.add_sub_cancel_left]
    exact ⟨this, by omega⟩
  | false =>
    rw [hb] at h
    injection h with h; subst h
    have : o < m := by
      rcases Nat.lt_or_ge o m with q | q
      · exact q
      · rw [Nat.ble_eq_true_of_le q] at hb; cases hb
    unfold canonInv
    rw [if_pos this]
    exact ⟨rfl, by omega⟩

theorem canon_names {ob : Objs} {m : Nat} {locals : List Nat} (hn : locals.Nodup) (hm : ∀ o ∈ locals, m ≤ o) : Names ob (subObjs ob (canonRho m locals) 0 (upTo m ++ locals)) (canonRho m locals) (canonInv m locals) := by
  have hget : ∀ j, (upTo m ++ locals)[j]? = canonInv m locals j := by
    intro j
    unfold canonInv
    rw [List.getElem?_append, upTo_length, upTo_get]
    by_cases h : j < m
    · rw [if_pos h, if_pos h, if_pos h]
    · rw [if_neg h, if_neg h]
  refine ⟨fun j x' hx' => ?_, fun o j h => (canonRho_inv h).1, fun j j' o h h' => ?_⟩
  · rw [subObjs_get, if_pos (Nat.zero_le j), Nat.sub_zero, hget] at hx'
    cases hj : canonInv m locals j with
    | none => rw [hj] at hx'; cases hx'
    | some o =>
      rw [hj] at hx'
      obtain ⟨x, h1, h2⟩ := Option.map_eq_some_iff.1 (show (oget ob o).map (AObj.ren (canonRho m locals)) = some x' from hx')
      exact ⟨o, x, rfl, h1, h2.symm⟩
  · unfold canonInv at h h'
    by_cases h1 : j < m <;> by_cases h2 : j' < m
    · rw [if_pos h1] at h; rw [if_pos h2] at h'; injection h with h; injection h' with h'; omega
    · rw [if_pos h1] at h; rw [if_neg h2] at h'; injection h with h; have := hm o (List.mem_of_getElem? h'); omega
    · rw [if_neg h1] at h; rw [if_pos h2] at h'; injection h' with h'; have := hm o (List.mem_of_getElem? h); omega
    · rw [if_neg h1] at h; rw [if_neg h2] at h'
      have := get_inj hn h h'
      omega
theorem canonInv_high {m : Nat} {locals : List Nat} (hm : ∀ o ∈ locals, m ≤ o) (j o : Nat) (h : canonInv m locals j = some o) (ho : o < m) : j < m := by
  unfold canonInv at h
  by_cases h1 : j < m
  · exact h1
  · rw [if_neg h1] at h; have := hm o (List.mem_of_getElem? h); omega
end Go.V

set_option linter.unusedVariables false
set_option linter.unusedSimpArgs false
namespace Go.V

/-- the ghosts, without those from n on -/
def cut (g : Gh) (n : Nat) : Gh := ⟨fun i => if n ≤ i then none else g.bl i, g.cp, g.al⟩

theorem cut_own {w : World} {g : Gh} {ob : Objs} {n k : Nat} (h : n ≤ k) {v : Value} (hv : v = .slice none 0 0) : VRep (cx w (cut g n) ob) (.own k) v := by
  subst hv
  refine ⟨rfl, fun sz m _ => ?_⟩
  simp [ownVal, cx, cut, h]

section
variable {w : World} {g : Gh} {ob ob' : Objs} {n : Nat}

theorem matL_rep (hl : Later (cx w g ob) (cx w (cut g n) ob') (· < n)) : ∀ (k : Nat) (cs : List AV) (vs : List Value), n ≤ k → NamesIn (· < n) (namesL cs) → VReps (cx w g ob) cs vs → VReps (cx w (cut g n) ob') (matL k cs).v vs ∧ k ≤ (matL k cs).n
  | k, [], vs, hk, hn, h => ⟨h, Nat.le_refl _⟩
  | k, c :: cs, vs, hk, hn, h => by
    obtain ⟨v, vs', rfl, h1, h2⟩ := h
    have hn1 : NamesIn (· < n) c.names := fun o ho => hn o (List.mem_append.2 (.inl ho))
    have hn2 : NamesIn (· < n) (namesL cs) := fun o ho => hn o (List.mem_append.2 (.inr ho))
    have keep : (matL k (c :: cs)) = ⟨c :: (matL k cs).v, (matL k cs).ob, (matL k cs).n⟩ → VReps (cx w (cut g n) ob') (matL k (c :: cs)).v (v :: vs') ∧ k ≤ (matL k (c :: cs)).n := by
      intro e
      rw [e]
      obtain ⟨i1, i2⟩ := matL_rep hl k cs vs' hk hn2 h2
      exact ⟨⟨v, vs', rfl, VRep.mono hl c v hn1 h1, i1⟩, i2⟩
    cases c with
    | nils sz =>
      obtain ⟨i1, i2⟩ := matL_rep hl (k + 1) cs vs' (by omega) hn2 h2
      exact ⟨⟨v, vs', rfl, cut_own hk h1, i1⟩, by show k ≤ (matL (k + 1) cs).n; omega⟩
    | _ => exact keep rfl

theorem matV_rep (hl : Later (cx w g ob) (cx w (cut g n) ob') (· < n)) (k : Nat) (c : AV) (v : Value) (hk : n ≤ k) (hn : NamesIn (· < n) c.names) (h : VRep (cx w g ob) c v) : VRep (cx w (cut g n) ob') (matV k c).v v ∧ k ≤ (matV k c).n := by
  cases c with
  | nils sz => exact ⟨cut_own hk h, by show k ≤ k + 1; omega⟩
  | agg cs =>
    obtain ⟨vs, rfl, h1, h2⟩ := h
    obtain ⟨i1, i2⟩ := matL_rep hl k cs vs hk hn h2
    exact ⟨⟨vs, rfl, h1, i1⟩, i2⟩
  | _ => exact ⟨VRep.mono hl _ v hn h, Nat.le_refl _⟩

theorem matVs_rep (hl : Later (cx w g ob) (cx w (cut g n) ob') (· < n)) : ∀ (k : Nat) (cs : List AV) (vs : List Value), n ≤ k → NamesIn (· < n) (namesL cs) → VReps (cx w g ob) cs vs → VReps (cx w (cut g n) ob') (matVs k cs).v vs ∧ k ≤ (matVs k cs).n
  | k, [], vs, hk, hn, h => ⟨h, Nat.le_refl _⟩
  | k, c :: cs, vs, hk, hn, h => by
    obtain ⟨v, vs', rfl, h1, h2⟩ := h
    obtain ⟨a1, a2⟩ := matV_rep hl k c v hk (fun o ho => hn o (List.mem_append.2 (.inl ho))) h1
    obtain ⟨b1, b2⟩ := matVs_rep hl (matV k c).n cs vs' (by omega) (fun o ho => hn o (List.mem_append.2 (.inr ho))) h2
    exact ⟨⟨v, vs', rfl, a1, b1⟩, by show k ≤ (matVs (matV k c).n cs).n; omega⟩

theorem matTop_rep (hl : Later (cx w g ob) (cx w (cut g n) ob') (· < n)) (k : Nat) (c : AV) (v : Value) (hk : n ≤ k) (hn : NamesIn (· < n) c.names) (h : VRep (cx w g ob) c v) : VRep (cx w (cut g n) ob') (matTop k c).v v ∧ k ≤ (matTop k c).n := by
  cases c with
  | tup cs =>
    obtain ⟨vs, rfl, h2⟩ := h
    obtain ⟨i1, i2⟩ := matVs_rep hl k cs vs hk hn h2
    exact ⟨⟨vs, rfl, i1⟩, i2⟩
  | _ => exact matV_rep hl k _ v hk hn h

theorem matRoots_rep (hl : Later (cx w g ob) (cx w (cut g n) ob') (· < n)) : ∀ (k : Nat) (cs : List AV) (vs : List Value), n ≤ k → NamesIn (· < n) (namesL cs) → VReps (cx w g ob) cs vs → VReps (cx w (cut g n) ob') (matRoots k cs).v vs ∧ k ≤ (matRoots k cs).n
  | k, [], vs, hk, hn, h => ⟨h, Nat.le_refl _⟩
  | k, c :: cs, vs, hk, hn, h => by
    obtain ⟨v, vs', rfl, h1, h2⟩ := h
    obtain ⟨a1, a2⟩ := matTop_rep hl k c v hk (fun o ho => hn o (List.mem_append.2 (.inl ho))) h1
    obtain ⟨b1, b2⟩ := matRoots_rep hl (matTop k c).n cs vs' (by omega) (fun o ho => hn o (List.mem_append.2 (.inr ho))) h2
    exact ⟨⟨v, vs', rfl, a1, b1⟩, by show k ≤ (matRoots (matTop k c).n cs).n; omega⟩

/-- what is written when nil slices get names -/
def MatEnt (n : Nat) (ob : Objs) (p : Nat × Option AObj) : Prop :=
  (∃ sz, p.2 = some (.arr sz [] true) ∧ n ≤ p.1) ∨ (∃ cs k, oget ob p.1 = some (.box cs) ∧ p.2 = some (.box (matL k cs).v) ∧ n ≤ k)

def MatNil (n : Nat) (p : Nat × Option AObj) : Prop := ∃ sz, p.2 = some (.arr sz [] true) ∧ n ≤ p.1

theorem matL_ent : ∀ (k : Nat) (cs : List AV), n ≤ k → (∀ p ∈ (matL k cs).ob, MatNil n p) ∧ k ≤ (matL k cs).n
  | k, [], _ => ⟨fun p h => (by cases h), Nat.le_refl _⟩
  | k, c :: cs, hk => by
    cases c with
    | nils sz =>
      obtain ⟨i1, i2⟩ := matL_ent (k + 1) cs (by omega)
      refine ⟨fun p hp => ?_, by show k ≤ (matL (k + 1) cs).n; omega⟩
      rcases List.mem_cons.1 hp with e | hp
      · subst e; exact ⟨sz, rfl, hk⟩
      · exact i1 p hp
    | _ => exact matL_ent k cs hk
theorem matV_ent (k : Nat) (c : AV) (hk : n ≤ k) : (∀ p ∈ (matV k c).ob, MatNil n p) ∧ k ≤ (matV k c).n := by
  cases c with
  | nils sz =>
    refine ⟨fun p hp => ?_, by show k ≤ k + 1; omega⟩
    rw [List.mem_singleton.1 hp]; exact ⟨sz, rfl, hk⟩
  | agg cs => exact matL_ent k cs hk
  | _ => exact ⟨fun p h => (by cases h), Nat.le_refl _⟩
theorem matVs_ent : ∀ (k : Nat) (cs : List AV), n ≤ k → (∀ p ∈ (matVs k cs).ob, MatNil n p) ∧ k ≤ (matVs k cs).n
  | k, [], _ => ⟨fun p h => (by cases h), Nat.le_refl _⟩
  | k, c :: cs, hk => by
    obtain ⟨a1, a2⟩ := matV_ent k c hk
    obtain ⟨b1, b2⟩ := matVs_ent (matV k c).n cs (by omega)
    refine ⟨fun p hp => ?_, by show k ≤ (matVs (matV k c).n cs).n; omega⟩
    rcases List.mem_append.1 hp with hp | hp
    · exact a1 p hp
    · exact b1 p hp
theorem matTop_ent (k : Nat) (c : AV) (hk : n ≤ k) : (∀ p ∈ (matTop k c).ob, MatNil n p) ∧ k ≤ (matTop k c).n := by
  cases c with
  | tup cs => exact matVs_ent k cs hk
  | _ => exact matV_ent k _ hk
theorem matRoots_ent : ∀ (k : Nat) (cs : List AV), n ≤ k → (∀ p ∈ (matRoots k cs).ob, MatNil n p) ∧ k ≤ (matRoots k cs).n
  | k, [], _ => ⟨fun p h => (by cases h), Nat.le_refl _⟩
  | k, c :: cs, hk => by
    obtain ⟨a1, a2⟩ := matTop_ent k c hk
    obtain ⟨b1, b2⟩ := matRoots_ent (matTop k c).n cs (by omega)
    refine ⟨fun p hp => ?_, by show k ≤ (matRoots (matTop k c).n cs).n; omega⟩
    rcases List.mem_append.1 hp with hp | hp
    · exact a1 p hp
    · exact b1 p hp
theorem matNames_ent : ∀ (k : Nat) (l : List Nat), n ≤ k → (∀ p ∈ (matNames ob k l).ob, MatEnt n ob p) ∧ k ≤ (matNames ob k l).n
  | k, [], _ => ⟨fun p h => (by cases h), Nat.le_refl _⟩
  | k, o :: l, hk => by
    unfold matNames
    cases hx : oget ob o with
    | none => exact matNames_ent k l hk
    | some x => cases x with
      | box cs =>
        obtain ⟨a1, a2⟩ := matL_ent k cs hk
        obtain ⟨b1, b2⟩ := matNames_ent (matL k cs).n l (by omega)
        refine ⟨fun p hp => ?_, by show k ≤ (matNames ob (matL k cs).n l).n; omega⟩
        rcases List.mem_cons.1 hp with e | hp
        · subst e; exact .inr ⟨cs, k, hx, rfl, hk⟩
        · rcases List.mem_append.1 hp with hp | hp
          · exact .inl (a1 p hp)
          · exact b1 p hp
      | _ => exact matNames_ent k l hk

theorem oget_ents : ∀ {A : Objs} {i : Nat} {x' : AObj}, oget (A ++ ob) i = some x' → (∃ p ∈ A, p.1 = i ∧ p.2 = some x') ∨ oget ob i = some x'
  | [], i, x', h => .inr h
  | (k, v) :: A, i, x', h => by
    rw [List.cons_append, oget_cons] at h
    by_cases e : k = i
    · rw [if_pos e] at h; exact .inl ⟨(k, v), List.mem_cons_self, e, h⟩
    · rw [if_neg e] at h
      rcases oget_ents h with ⟨p, h1, h2⟩ | h
      · exact .inl ⟨p, List.mem_cons_of_mem _ h1, h2⟩
      · exact .inr h

theorem mat_get {A : Objs} (hA : ∀ p ∈ A, MatEnt n ob p) {i : Nat} {x' : AObj} (h : oget (A ++ ob) i = some x') :
    (∃ sz, x' = .arr sz [] true ∧ n ≤ i) ∨ (∃ cs k, oget ob i = some (.box cs) ∧ x' = .box (matL k cs).v ∧ n ≤ k) ∨ oget ob i = some x' := by
  rcases oget_ents h with ⟨p, h1, h2, h3⟩ | h
  · rcases hA p h1 with ⟨sz, e, hn⟩ | ⟨cs, k, e1, e2, e3⟩
    · rw [h3] at e; injection e with e; exact .inl ⟨sz, e, h2 ▸ hn⟩
    · rw [h3] at e2; injection e2 with e2; exact .inr (.inl ⟨cs, k, h2 ▸ e1, e2, e3⟩)
  · exact .inr (.inr h)

theorem mat_later {A : Objs} (hA : ∀ p ∈ A, MatEnt n ob p) : Later (cx w g ob) (cx w (cut g n) (A ++ ob)) (· < n) := by
  refine ⟨fun b off u hs hu => ⟨hu, hs.1, ?_⟩, fun o ho => if_neg (Nat.not_le_of_lt ho), fun _ _ => rfl, fun o sz m ho hl => ?_⟩
  · rintro ⟨i, x', hx', hb, hm⟩
    have hb' : (if n ≤ i then none else g.bl i) = some b := hb
    by_cases hni : n ≤ i
    · rw [if_pos hni] at hb'; cases hb'
    · rw [if_neg hni] at hb'
      rcases mat_get hA hx' with ⟨sz, _, h⟩ | ⟨cs, k, h1, h2, _⟩ | h
      · exact hni h
      · exact hs.2 ⟨i, _, h1, hb', trivial⟩
      · exact hs.2 ⟨i, _, h, hb', hm⟩
  · obtain ⟨xs, u, hx, rfl⟩ := lnOf_some hl
    rcases mat_get hA hx with ⟨sz', _, h⟩ | ⟨cs, k, h1, h2, _⟩ | h
    · omega
    · cases h2
    · exact lnOf_of h

theorem mat_good {A : Objs} (hA : ∀ p ∈ A, MatEnt n ob p) (hg : Good w g ob (· < n)) : Good w (cut g n) (A ++ ob) (fun _ => True) := by
  have hl := mat_later (w := w) (g := g) hA
  have low : ∀ i b, (cut g n).bl i = some b → ¬ n ≤ i ∧ g.bl i = some b := by
    intro i b hb
    have hb' : (if n ≤ i then none else g.bl i) = some b := hb
    by_cases hni : n ≤ i
    · rw [if_pos hni] at hb'; cases hb'
    · rw [if_neg hni] at hb'; exact ⟨hni, hb'⟩
  have back : ∀ i x', oget (A ++ ob) i = some x' → ¬ n ≤ i → ∃ x, oget ob i = some x := by
    intro i x' hx' hi
    rcases mat_get hA hx' with ⟨sz, _, h⟩ | ⟨cs, k, h1, _, _⟩ | h
    · exact absurd h hi
    · exact ⟨_, h1⟩
    · exact ⟨_, h⟩
  refine ⟨fun i x' hx' => ?_, fun i j x y b hi hj h1 h2 => ?_, fun i x' hx' => ⟨trivial, fun _ _ => trivial⟩, hg.fresh, fun i x' b hx' hb => ?_⟩
  · rcases mat_get hA hx' with ⟨sz, e, h⟩ | ⟨cs, k, h1, e, hk⟩ | h
    · subst e
      exact .inl ⟨by simp [cx, cut, h], rfl⟩
    · subst e
      obtain ⟨b, t, vs, a1, a2, a0, a3⟩ := hg.rep i _ h1
      have hi := (hg.dom i _ h1).1
      exact ⟨b, t, vs, (hl.bl i hi).trans a1, a2, a0, (matL_rep hl k cs vs hk (hg.dom i _ h1).2 a3).1⟩
    · exact ObRep.mono hl i x' (hg.dom i _ h).1 (hg.dom i _ h).2 (fun _ _ => rfl) (hg.rep i _ h)
  · obtain ⟨n1, b1⟩ := low i b h1
    obtain ⟨n2, b2⟩ := low j b h2
    obtain ⟨x0, hx0⟩ := back i x hi n1
    obtain ⟨y0, hy0⟩ := back j y hj n2
    exact hg.inj i j x0 y0 b hx0 hy0 b1 b2
  · obtain ⟨n1, b1⟩ := low i b hb
    obtain ⟨x0, hx0⟩ := back i x' hx' n1
    exact hg.own i x0 b hx0 b1

theorem mat_step {A : Objs} (hA : ∀ p ∈ A, MatEnt n ob p) : Step w g ob w (cut g n) (A ++ ob) (· < n) (fun _ => False) := by
  refine ⟨mat_later hA, fun o ho h => ?_, fun _ _ _ => rfl, fun o ho h b hb => ?_, Nat.le_refl _, rfl, rfl, rfl, rfl⟩
  · obtain ⟨x', hx'⟩ := Option.ne_none_iff_exists'.1 h
    rcases mat_get hA hx' with ⟨sz, _, h⟩ | ⟨cs, k, h1, _, _⟩ | h
    · omega
    · rw [h1]; simp
    · rw [h]; simp
  · have hb' : (if n ≤ o then none else g.bl o) = some b := hb
    rw [if_pos (by omega)] at hb'; cases hb'
end
end Go.V

set_option linter.unusedVariables false
set_option linter.unusedSimpArgs false
namespace Go.V

def Same : AObj → AObj → Prop
  | .box _, .box _ => True
  | .arr a b c, y => y = .arr a b c
  | .map e, y => y = .map e
  | _, _ => False
theorem Same.refl (x : AObj) : Same x x := by cases x <;> first | trivial | rfl
theorem Same.trans {x y z : AObj} (h : Same x y) (k : Same y z) : Same x z := by
  cases x with
  | box _ => cases y with
    | box _ => cases z with
      | box _ => trivial
      | _ => exact k
    | _ => exact h.elim
  | arr _ _ _ => have e : y = _ := h; subst e; exact k
  | map _ => have e : y = _ := h; subst e; exact k
theorem Same.ren (x : AObj) (ρ : Nat → Option Nat) : Same x (x.ren ρ) := by cases x <;> first | trivial | rfl

def Shape (m : Nat) (ob0 ob : Objs) : Prop := ∀ i, i < m → ∀ x, oget ob0 i = some x → ∃ x', oget ob i = some x' ∧ Same x x'
theorem Shape.refl (m : Nat) (ob : Objs) : Shape m ob ob := fun i _ x h => ⟨x, h, Same.refl x⟩
theorem Shape.trans {m : Nat} {a b c : Objs} (h : Shape m a b) (k : Shape m b c) : Shape m a c := fun i hi x hx => by
  obtain ⟨y, h1, h2⟩ := h i hi x hx
  obtain ⟨z, k1, k2⟩ := k i hi y h1
  exact ⟨z, k1, h2.trans k2⟩

theorem mat_same {n : Nat} {ob : Objs} : ∀ {A : Objs}, (∀ p ∈ A, MatEnt n ob p) → Shape n ob (A ++ ob)
  | [], _ => Shape.refl _ _
  | (k, v) :: A, hA => fun i hi x hx => by
    rw [List.cons_append, oget_cons]
    by_cases e : k = i
    · rw [if_pos e]
      rcases hA (k, v) List.mem_cons_self with ⟨sz, _, h⟩ | ⟨cs, q, h1, h2, _⟩
      · have h' : n ≤ k := h
        omega
      · have h1' : oget ob k = some (.box cs) := h1
        rw [e, hx] at h1'; injection h1' with h1'; subst h1'
        exact ⟨_, h2, trivial⟩
    · rw [if_neg e]
      exact mat_same (fun p hp => hA p (List.mem_cons_of_mem _ hp)) i hi x hx

theorem nil_box {n : Nat} {ob : Objs} : ∀ {A : Objs}, (∀ p ∈ A, MatNil n p) → ∀ {i : Nat} {cs : List AV}, oget (A ++ ob) i = some (.box cs) → oget ob i = some (.box cs)
  | [], _, i, cs, h => h
  | (k, v) :: A, hA, i, cs, h => by
    rw [List.cons_append, oget_cons] at h
    by_cases e : k = i
    · rw [if_pos e] at h
      obtain ⟨sz, h1, _⟩ := hA (k, v) List.mem_cons_self
      have h1' : v = some (.arr sz [] true) := h1
      rw [h1'] at h; cases h
    · rw [if_neg e] at h
      exact nil_box (fun p hp => hA p (List.mem_cons_of_mem _ hp)) h

theorem canon_ok {w0 w : World} {g0 g : Gh} {ob0 ob : Objs} {m nx : Nat} {K : Nat → Prop} {roots : List AV} {vs : List Value} (hg : Good w g ob (· < nx)) (hm : m ≤ nx) (hr : VReps (cx w g ob) roots vs) (hn : NamesIn (· < nx) (namesL roots))
    (hs : Step w0 g0 ob0 w g ob (· < m) K) : ∃ g', Good w g' (canon m nx roots ob).ob (· < (canon m nx roots ob).nx) ∧ m ≤ (canon m nx roots ob).nx ∧ VReps (cx w g' (canon m nx roots ob).ob) (canon m nx roots ob).roots vs ∧
      NamesIn (· < (canon m nx roots ob).nx) (namesL (canon m nx roots ob).roots) ∧ Step w0 g0 ob0 w g' (canon m nx roots ob).ob (· < m) K ∧ Shape m ob (canon m nx roots ob).ob ∧ Keeps w (cx w g ob).S w (cx w g' (canon m nx roots ob).ob).S := by
  -- the parts
  have hR := matRoots_ent (n := nx) nx roots (Nat.le_refl _)
  obtain ⟨A1, hA1⟩ : ∃ A1, A1 = (matRoots nx roots).ob := ⟨_, rfl⟩
  obtain ⟨n1, hn1⟩ : ∃ n1, n1 = (matRoots nx roots).n := ⟨_, rfl⟩
  obtain ⟨r1, hr1⟩ : ∃ r1, r1 = (matRoots nx roots).v := ⟨_, rfl⟩
  rw [← hA1, ← hn1] at hR
  obtain ⟨L, hL⟩ : ∃ L, L = reach (A1 ++ ob) fuelC (namesL r1 ++ upTo m) [] := ⟨_, rfl⟩
  obtain ⟨A2, hA2⟩ : ∃ A2, A2 = (matNames (A1 ++ ob) n1 L).ob := ⟨_, rfl⟩
  obtain ⟨locals, hloc⟩ : ∃ locals, locals = localsOf m (reach (A2 ++ (A1 ++ ob)) fuelC (namesL r1 ++ upTo m) []) := ⟨_, rfl⟩
  have hcanon : canon m nx roots ob = ⟨renL (canonRho m locals) r1, subObjs (A2 ++ (A1 ++ ob)) (canonRho m locals) 0 (upTo m ++ locals), m + locals.length⟩ := by
    rw [hloc, hA2, hL, hA1, hn1, hr1]; rfl
  have hA : ∀ p ∈ A2 ++ A1, MatEnt nx ob p := by
    intro p hp
    rcases List.mem_append.1 hp with hp | hp
    · rw [hA2] at hp
      rcases (matNames_ent (n := n1) (ob := A1 ++ ob) n1 L (Nat.le_refl _)).1 p hp with ⟨sz, h1, h2⟩ | ⟨cs, k, h1, h2, h3⟩
      · exact .inl ⟨sz, h1, Nat.le_trans hR.2 h2⟩
      · exact .inr ⟨cs, k, nil_box hR.1 h1, h2, Nat.le_trans hR.2 h3⟩
    · exact .inl (hR.1 p hp)
  rw [← List.append_assoc] at hcanon
  have g1 := mat_good hA hg
  have s1 := Step.trans hs (mat_step (w := w) (g := g) hA) (fun o ho => Nat.lt_of_lt_of_le ho hm)
  have v1 := (matRoots_rep (mat_later (w := w) (g := g) hA) nx roots vs (Nat.le_refl _) hn hr).1
  rw [← hr1] at v1
  have hlm : ∀ o ∈ locals, m ≤ o := fun o ho => by rw [hloc] at ho; exact (localsOf_mem ho).1
  have hnd : locals.Nodup := by rw [hloc]; exact localsOf_nodup (reach_nodup _ _ _ _ List.nodup_nil)
  have hN := canon_names (ob := A2 ++ A1 ++ ob) hnd hlm
  rw [hcanon]
  have hrn := hN.renOk (w := w) (g := cut g nx) (al := g.al) (fun b off hs => hs.1)
  have hbound : ∀ (j : Nat) (o : Nat), canonInv m locals j = some o → j < m + locals.length := by
    intro j o hj
    unfold canonInv at hj
    by_cases h : j < m
    · omega
    · rw [if_neg h] at hj
      have := (List.getElem?_eq_some_iff.1 hj).1
      omega
  refine ⟨pull (cut g nx) (canonInv m locals) g.al, ?_, by dsimp only; omega, VReps.ren hrn _ _ v1, ?_, ?_, ?_, ?_⟩
  · refine hN.good g1 (fun b off hs => hs.1) (fun b off hb => hg.fresh b off hb) (fun j o b hj hx hb off => ?_) (fun j x' hx' => ?_)
    · obtain ⟨x', hx'⟩ := Option.ne_none_iff_exists'.1 hx
      obtain ⟨o', x, h1, h2, _⟩ := hN.ob j x' hx'
      rw [hj] at h1; injection h1 with h1; subst h1
      exact g1.own o x b h2 hb off
    · obtain ⟨o, x, h1, h2, rfl⟩ := hN.ob j x' hx'
      refine ⟨hbound j o h1, fun q hq => ?_⟩
      obtain ⟨o', _, h3⟩ := AObj.ren_names x q hq
      exact (canonRho_inv h3).2
  · intro q hq
    obtain ⟨o', _, h3⟩ := renL_names r1 q hq
    exact (canonRho_inv h3).2
  · have s2 := hN.step (s1.mono fun o ho => ho.elim id False.elim) (fun j hj => canonRho_low hj) (fun j o hj ho => canonInv_high hlm j o hj ho)
    exact s2
  · refine Shape.trans (fun i hi x hx => mat_same hA i (Nat.lt_of_lt_of_le hi hm) x hx) fun i hi x hx => ?_
    refine ⟨x.ren (canonRho m locals), ?_, Same.ren x _⟩
    dsimp only
    rw [subObjs_get, if_pos (Nat.zero_le i), Nat.sub_zero, List.getElem?_append, upTo_length, if_pos hi, upTo_get, if_pos hi]
    show (oget (A2 ++ A1 ++ ob) i).map _ = _
    rw [hx]; rfl
  · exact (mat_later (w := w) (g := g) hA).keeps.trans hrn.keeps
end Go.V

set_option linter.unusedVariables false
set_option linter.unusedSimpArgs false
namespace Go.V

structure Inv (gl : GlT) (w0 : World) (g0 : Gh) (ob0 : Objs) (a : Act) (w : World) (g : Gh) (st : St) : Prop where
  here : Here gl a w g st.ob (· < st.nx) st.fr
  low : st.m ≤ st.nx
  step : Step w0 g0 ob0 w g st.ob (· < st.m) (fun o => st.ro = false ∨ st.m ≤ o)
  shape : st.ro = true → Shape st.m ob0 st.ob

theorem frKeep_rep {c : Cx} {fr : Fr} {tm : Nat → Value} (h : ∀ t, VRep c (fget fr t) (tm t)) : ∀ (keep : List Nat), VReps c (frKeep fr keep) (keep.map tm)
  | [] => rfl
  | t :: l => ⟨_, _, rfl, h t, frKeep_rep h l⟩
theorem frKeep_names {fr : Fr} {U : Nat → Prop} (h : ∀ t, NamesIn U (fget fr t).names) : ∀ (keep : List Nat), NamesIn U (namesL (frKeep fr keep))
  | [] => fun _ h => by cases h
  | t :: l => fun o ho => by
    rcases List.mem_append.1 (show o ∈ (fget fr t).names ++ namesL (frKeep fr l) from ho) with ho | ho
    · exact h t o ho
    · exact frKeep_names h l o ho
theorem frZip_rep {c : Cx} {tm : Nat → Value} : ∀ (keep : List Nat) (roots : List AV), VReps c roots (keep.map tm) → ∀ t, VRep c (fget (frZip keep roots) t) (tm t)
  | [], _, _, t => trivial
  | k :: l, [], h, t => trivial
  | k :: l, r :: rs, h, t => by
    obtain ⟨v, vs, e, h1, h2⟩ := h
    injection e with e1 e2
    subst e1; subst e2
    show VRep c (fget ((k, r) :: frZip l rs) t) (tm t)
    rw [fget_cons]
    by_cases hk : k = t
    · rw [if_pos hk, ← hk]; exact h1
    · rw [if_neg hk]; exact frZip_rep l rs h2 t
theorem frZip_names {U : Nat → Prop} : ∀ (keep : List Nat) (roots : List AV), NamesIn U (namesL roots) → ∀ t, NamesIn U (fget (frZip keep roots) t).names
  | [], _, _, t => fun _ h => by cases h
  | k :: l, [], _, t => fun _ h => by cases h
  | k :: l, r :: rs, hn, t => by
    show NamesIn U (fget ((k, r) :: frZip l rs) t).names
    rw [fget_cons]
    by_cases hk : k = t
    · rw [if_pos hk]; exact fun o ho => hn o (List.mem_append.2 (.inl ho))
    · rw [if_neg hk]; exact frZip_names l rs (fun o ho => hn o (List.mem_append.2 (.inr ho))) t

theorem GlobOk.mono {gl : GlT} {w w' : World} {S S' : Nat → Nat → Prop} (hk : Keeps w S w' S') (h : GlobOk gl w S) : GlobOk gl w' S' := by
  intro g cs hg j x hj
  obtain ⟨u, h1, h2, h3, h4⟩ := h g cs hg j x hj
  exact ⟨u, (hk g j u h2 h1).1, (hk g j u h2 h1).2, DRep.mono hk x u h3, h4⟩

theorem norm_ok {gl : GlT} {w0 w : World} {g0 g : Gh} {ob0 : Objs} {a : Act} {st : St} (h : Inv gl w0 g0 ob0 a w g st) (keep : List Nat) : ∃ g', Inv gl w0 g0 ob0 a w g' (norm keep st) := by
  obtain ⟨g', k1, k2, k3, k4, k5, k6, k7⟩ := canon_ok h.here.good h.low (frKeep_rep (tm := fun t => a.tmps.getD t undef) h.here.slot keep) (frKeep_names h.here.name keep) h.step
  refine ⟨g', ⟨k1, fun t => frZip_rep keep _ k3 t, fun t => frZip_names keep _ k4 t, h.here.glob.mono k7⟩, k2, k5, fun hr => (h.shape hr).trans k6⟩
end Go.V
