/- SOUNDNESS 9: one operation. -/
import Derived.Test.YtgkdehfbeejlfaaMc9
set_option linter.unusedVariables false
set_option linter.unusedSimpArgs false
namespace Go.Proofs.Ytgkdehfbeejlfaa
namespace M

theorem box_rp_ok {cx : Cx} {G : Gh} {w : World} {S : St} (sr : SR G S w) {t : Nat} {v : AV} {x : Value} (hv : VR G w v x) (hc : v.cells.all AV.isCell = true) :
    ∃ u w', (Instr.box t x).run cx.P w = .ok u w' ∧ VR G w' (.rp v.cells) u ∧ Old w w' := by
  obtain ⟨h1, h2⟩ := cells_rel hv hc
  have old := Old.alloc w (.cells x.cells t)
  refine ⟨.pointer (some ⟨w.heap.size, 0, none⟩), w.alloc (.cells x.cells t), ?_, ?_, old⟩
  · simp only [Instr.box, Sem.run_bind, Result.andThen_ok, newVar, newRow, run_newObj, Sem.run_pure]
    rfl
  · have hlen : v.cells.length = x.cells.size := by have := h1.1; simpa using this
    refine .rp (fun j => x.cells.toList.getD j Go.undef) (fun j hj => ?_) (fun j hj => ?_)
    · have hlt : j < x.cells.toList.length := by simp; omega
      have hg : x.cells.toList.getD j Go.undef = x.cells.toList[j] := by simp only [List.getD, List.getElem?_eq_getElem hlt, Option.getD_some]
      rw [add_at, hg]
      refine ⟨?_, ⟨by simp, fun hm => ?_, fun e he hb => ?_, fun e he hb => ?_⟩, h2 _ (List.getElem_mem hlt)⟩
      · rw [cell_of_row _ _ _ _ _ (0, 0) (heap_alloc_new w _)]
        simp
      · have := sr.llt _ hm; simp at this
      · have := sr.tlt e he; simp only at hb; omega
      · have := (sr.od e he).1; simp only at hb; omega
    · have hlt : j < x.cells.toList.length := by simp; omega
      have hg : x.cells.toList.getD j Go.undef = x.cells.toList[j] := by simp only [List.getD, List.getElem?_eq_getElem hlt, Option.getD_some]
      rw [hg]
      exact (h1.2 j hj hlt).mono (old.ge G)

section
variable {P : Program} {o : Oper} {a : Act} {w w' : World} {u : Value} {K : Act → World → Prop} {Q : Exit → Act → World → Prop}
theorem wp_value (e : (execOp a.eval o).run P w = .ok (.value u) w') (hk : K (a.put o.dst u) w') : o.wp P a w K Q := by
  unfold Oper.wp; rw [e]; exact hk
theorem wp_skip' (e : (execOp a.eval o).run P w = .ok .skip w') (hk : K (a.put o.dst Go.undef) w') : o.wp P a w K Q := by
  unfold Oper.wp; rw [e]; exact hk
theorem wp_enter {f : FuncId} {args : Array Value} (e : (execOp a.eval o).run P w = .ok (.enter f args) w') (hk : Calls P f args w' fun e w'' => match e with
    | .returned v => K (a.put o.dst v) w''
    | _ => False) : o.wp P a w K Q := by
  unfold Oper.wp; rw [e]
  exact hk.mono fun e w'' h => by cases e <;> first | exact h | exact h.elim
theorem run_v {s : Sem Value} (e : s.run P w = .ok u w') : (do pure (.value (← s)) : Sem Next).run P w = .ok (.value u) w' := by
  simp only [Sem.run_bind, e, Result.andThen_ok, Sem.run_pure]
theorem run_u {s : Sem Unit} (e : s.run P w = .ok () w') : (do s; pure .skip : Sem Next).run P w = .ok .skip w' := by
  simp only [Sem.run_bind, e, Result.andThen_ok, Sem.run_pure]
end

theorem opt_rel {G : Gh} {w : World} {r : Regs} {a : Act} (h : VRs G w r a.tmps.toList) : ∀ x : Option Operand, OptRel G w (x.map (ev r)) (x.map a.eval)
  | none => trivial
  | some x => by
    simp only [Option.map_some]
    cases hx : ev r x with
    | none => trivial
    | some v => exact ev_rel h hx

theorem run_callFunc {P : Program} {f : Nat} {fn : Func} (hf : P.funcs[f]? = some fn) (hb : fn.body.isNone = false) (hn : (fn.name == "runtime.NumGoroutine") = false) (args : Array Value) (w : World) :
    (callFunc f args).run P w = .ok (.enter f args) w := by
  have hn' : fn.name ≠ "runtime.NumGoroutine" := by simpa using hn
  have hb' : fn.body ≠ none := fun e => by rw [e] at hb; cases hb
  simp [callFunc, go_sem, hf, hn', hb']

theorem op_wp {cx : Cx} (ok : CxOk cx) {C : Oracle} (cs : CSound cx C) {G : Gh} {w : World} {r : Regs} {S S' : St} {o : Oper} {a : Act} {v : AV} (hr : VRs G w r a.tmps.toList) (sr : SR G S w) (h : opT cx C r S o.op = some (v, S'))
    {K : Act → World → Prop} {Q : Exit → Act → World → Prop} (hK : ∀ u w' G', VR G' w' v u → SR G' S' w' → Mv G w G' w' → K (a.put o.dst u) w') : o.wp cx.P a w K Q := by
  obtain ⟨dst, op, type, pos, after, guard⟩ := o
  simp only at h hK
  cases op with
  | move x =>
    simp only [opT, Option.map_eq_some_iff] at h
    obtain ⟨v', h1, h2⟩ := h
    cases h2
    exact wp_value (by simp only [execOp, Sem.run_pure]) (hK _ w G (ev_rel hr h1) sr (Mv.refl G w))
  | assign x =>
    simp only [opT, Option.map_eq_some_iff] at h
    obtain ⟨v', h1, h2⟩ := h
    cases h2
    exact wp_value (by simp only [execOp, Sem.run_pure]) (hK _ w G (ev_rel hr h1) sr (Mv.refl G w))
  | pick c x y =>
    simp only [opT, Option.bind_eq_some_iff, Option.map_eq_some_iff] at h
    obtain ⟨c', h1, b, h2, x', h3, y', h4, h5⟩ := h
    cases h5
    have hc := ev_rel hr h1
    have : c' = .bool b := by unfold asBoolT at h2; split at h2 <;> cases h2; rfl
    subst this
    generalize hcc : a.eval c = cc at hc
    cases hc
    refine wp_value (u := if b then a.eval x else a.eval y) (w' := w) (by simp [execOp, hcc, asBool]) (hK _ w G ?_ sr (Mv.refl G w))
    cases b
    · exact ev_rel hr h4
    · exact ev_rel hr h3
  | alloc t =>
    simp only [opT, Option.bind_eq_some_iff] at h
    obtain ⟨ti, ht, h⟩ := h
    split at h
    · cases h
      obtain ⟨u, w', G', h1, h2, h3, h4⟩ := alloc_ok ok sr ht
      exact wp_value (by simp only [execOp]; exact run_v h1) (hK u w' G' h2 h3 h4)
    · cases h
  | box t x =>
    simp only [opT, Option.bind_eq_some_iff] at h
    obtain ⟨x', hx, h⟩ := h
    split at h
    · rename_i hc
      split at h
      · cases h
        obtain ⟨u, w', h1, h2, h3⟩ := box_rp_ok (cx := cx) (t := t) sr (ev_rel hr hx) hc
        exact wp_value (by simp only [execOp]; exact run_v h1) (hK u w' G h2 (h3.sr sr) (h3.mv G))
      · cases h
        obtain ⟨u, w', G', h1, h2, h3, h4⟩ := box_ok (cx := cx) (t := t) sr (ev_rel hr hx) hc
        exact wp_value (by simp only [execOp]; exact run_v h1) (hK u w' G' h2 h3 h4)
    · cases h
  | build t ps =>
    simp only [opT, Option.bind_eq_some_iff, Option.map_eq_some_iff] at h
    obtain ⟨ps', hp, v', h1, h2⟩ := h
    cases h2
    obtain ⟨e1, e2⟩ := evp_rel hr hp
    obtain ⟨u, h3, h4⟩ := buildT_ok ok (qs := ps.toList.map fun x => (x.1, a.eval x.2)) (by rw [e1, List.map_map]; rfl) (by rw [List.map_map]; rw [List.map_map] at e2; exact e2) h1
    have e3 : (ps.toList.map fun x => (x.1, a.eval x.2)).toArray = ps.map fun x => (x.1, a.eval x.2) := by rw [← Array.toList_inj]; simp
    rw [e3] at h3
    exact wp_value (by simp only [execOp]; exact run_v h3) (hK u w G h4 sr (Mv.refl G w))
  | buildSlice t n ps =>
    simp only [opT, Option.bind_eq_some_iff, Option.map_eq_some_iff] at h
    obtain ⟨ps', hp, v', h1, h2⟩ := h
    cases h2
    obtain ⟨e1, e2⟩ := evp_rel hr hp
    obtain ⟨u, w', h3, h4, h5⟩ := buildSliceT_ok ok sr (qs := ps.toList.map fun x => (x.1, a.eval x.2)) (by rw [e1, List.map_map]; rfl) (by rw [List.map_map]; rw [List.map_map] at e2; exact e2) h1
    have e3 : (ps.toList.map fun x => (x.1, a.eval x.2)).toArray = ps.map fun x => (x.1, a.eval x.2) := by rw [← Array.toList_inj]; simp
    rw [e3] at h3
    exact wp_value (by simp only [execOp]; exact run_v h3) (hK u w' G h4 (h5.sr sr) (h5.mv G))
  | load t x =>
    simp only [opT, Option.bind_eq_some_iff, Option.map_eq_some_iff] at h
    obtain ⟨x', hx, v', h1, h2⟩ := h
    cases h2
    obtain ⟨u, h3, h4⟩ := loadT_ok ok sr (ev_rel hr hx) h1
    exact wp_value (by simp only [execOp]; exact run_v h3) (hK u w G h4 sr (Mv.refl G w))
  | store t x y =>
    simp only [opT, Option.bind_eq_some_iff, Option.map_eq_some_iff] at h
    obtain ⟨x', hx, y', hy, S1, h1, h2⟩ := h
    cases h2
    obtain ⟨w', h3, h4, h5⟩ := storeT_ok ok sr (ev_rel hr hx) (ev_rel hr hy) h1
    exact wp_skip' (by simp only [execOp]; exact run_u h3) (hK _ w' G (VR.noval G w') h4 h5)
  | nilCheck x =>
    simp only [opT, Option.bind_eq_some_iff] at h
    obtain ⟨x', hx, h⟩ := h
    have hv := ev_rel hr hx
    generalize hxx : a.eval x = xx at hv
    have go : v = x' ∧ S' = S ∧ (execOp a.eval ⟨dst, .nilCheck x, type, pos, after, guard⟩).run cx.P w = .ok (.value xx) w := by
      split at h
      · cases h; cases hv; exact ⟨rfl, rfl, by simp [execOp, hxx]⟩
      · cases h; cases hv; exact ⟨rfl, rfl, by simp [execOp, hxx]⟩
      · cases h; cases hv; exact ⟨rfl, rfl, by simp [execOp, hxx]⟩
      · cases h; cases hv; exact ⟨rfl, rfl, by simp [execOp, hxx]⟩
      · cases h
    obtain ⟨rfl, rfl, e⟩ := go
    exact wp_value e (hK xx w G hv sr (Mv.refl G w))
  | binOp op t x y yt =>
    simp only [opT, Option.bind_eq_some_iff, Option.map_eq_some_iff] at h
    obtain ⟨x', hx, y', hy, v', h1, h2⟩ := h
    cases h2
    obtain ⟨u, h3, h4⟩ := binT_ok ok (ev_rel hr hx) (ev_rel hr hy) h1 x y
    exact wp_value (by simp only [execOp]; exact run_v h3) (hK u w G h4 sr (Mv.refl G w))
  | unOp op t x =>
    cases op with
    | not =>
      simp only [opT, Option.bind_eq_some_iff, Option.map_eq_some_iff] at h
      obtain ⟨x', hx, b, h1, h2⟩ := h
      cases h2
      have : x' = .bool b := by unfold asBoolT at h1; split at h1 <;> cases h1; rfl
      subst this
      have hv := ev_rel hr hx
      generalize hxx : a.eval x = xx at hv
      cases hv
      exact wp_value (u := .bool !b) (w' := w) (by simp [execOp, hxx, Op.unary]) (hK _ w G .bool sr (Mv.refl G w))
    | _ => simp only [opT] at h; cases h
  | makeInterface t x =>
    simp only [opT, Option.bind_eq_some_iff] at h
    obtain ⟨x', hx, h⟩ := h
    split at h
    · rename_i hi
      cases h
      obtain ⟨d, hd, hnd⟩ := isIface_false ok hi
      have h3 : (Instr.makeInterface t (a.eval x)).run cx.P w = .ok (.iface t (a.eval x)) w := by
        simp only [Instr.makeInterface, Sem.run_bind, run_underlying hd, Result.andThen_ok]
        cases d <;> first | rfl | (simp at hnd)
      exact wp_value (by simp only [execOp]; exact run_v h3) (hK _ w G (.iface (ev_rel hr hx)) sr (Mv.refl G w))
    · cases h
  | makeFunc fn fs cs' =>
    cases fn with
    | func f =>
      simp only [opT] at h
      split at h
      · rename_i hz
        obtain ⟨vs, h1, h2⟩ := Option.map_eq_some_iff.1 h
        cases h2
        have hvs := evs_rel hr h1
        have hfs : fs = #[] := Array.eq_empty_of_size_eq_zero hz
        subst hfs
        refine wp_value (u := .func (.func f) #[] (cs'.map a.eval)) (w' := w) (by simp [execOp, Instr.makeFunc]) (hK _ w G ?_ sr (Mv.refl G w))
        have := VR.fn (f := f) hvs.1 hvs.2
        have e : (cs'.toList.map a.eval).toArray = cs'.map a.eval := by rw [← Array.toList_inj]; simp
        rwa [e] at this
      · cases h
    | _ => simp only [opT] at h; cases h
  | makeSlice t l c =>
    simp only [opT, Option.bind_eq_some_iff] at h
    obtain ⟨l', hl, c', hc, h⟩ := h
    obtain ⟨u, w', G', h1, h2, h3, h4⟩ := makeSliceT_ok ok sr (ev_rel hr hl) (ev_rel hr hc) h
    exact wp_value (by simp only [execOp]; exact run_v h1) (hK u w' G' h2 h3 h4)
  | slice t x lo hi mx =>
    simp only [opT] at h
    split at h
    · cases h
    · rename_i hm
      simp only [Option.bind_eq_some_iff, Option.map_eq_some_iff] at h
      obtain ⟨x', hx, v', h1, h2⟩ := h
      cases h2
      obtain ⟨u, h3, h4⟩ := sliceT_ok ok (ev_rel hr hx) (opt_rel hr lo) (opt_rel hr hi) (opt_rel hr mx) h1 (fun e => by
        cases hi <;> cases mx <;> simp_all)
      exact wp_value (by simp only [execOp]; exact run_v h3) (hK u w G h4 sr (Mv.refl G w))
  | fieldAddr t x f =>
    simp only [opT, Option.bind_eq_some_iff, Option.map_eq_some_iff] at h
    obtain ⟨x', hx, v', h1, h2⟩ := h
    cases h2
    obtain ⟨u, h3, h4⟩ := fieldAddrT_ok ok (ev_rel hr hx) h1
    exact wp_value (by simp only [execOp]; exact run_v h3) (hK u w G h4 sr (Mv.refl G w))
  | field t x f =>
    simp only [opT, Option.bind_eq_some_iff, Option.map_eq_some_iff] at h
    obtain ⟨x', hx, v', h1, h2⟩ := h
    cases h2
    obtain ⟨u, h3, h4⟩ := fieldT_ok ok (ev_rel hr hx) h1
    exact wp_value (by simp only [execOp]; exact run_v h3) (hK u w G h4 sr (Mv.refl G w))
  | indexAddr t x i =>
    simp only [opT, Option.bind_eq_some_iff, Option.map_eq_some_iff] at h
    obtain ⟨x', hx, i', hi, v', h1, h2⟩ := h
    cases h2
    obtain ⟨u, h3, h4⟩ := indexAddrT_ok ok (ev_rel hr hx) (ev_rel hr hi) h1
    exact wp_value (by simp only [execOp]; exact run_v h3) (hK u w G h4 sr (Mv.refl G w))
  | typeAssert x xt t b =>
    simp only [opT, Option.bind_eq_some_iff, Option.map_eq_some_iff] at h
    obtain ⟨x', hx, v', h1, h2⟩ := h
    cases h2
    obtain ⟨u, h3, h4⟩ := typeAssertT_ok ok (ev_rel hr hx) h1
    exact wp_value (by simp only [execOp]; exact run_v h3) (hK u w G h4 sr (Mv.refl G w))
  | extract x i =>
    simp only [opT, Option.bind_eq_some_iff] at h
    obtain ⟨x', hx, h⟩ := h
    split at h
    · rename_i vs
      obtain ⟨v', h1, h2⟩ := Option.map_eq_some_iff.1 h
      cases h2
      have hv := ev_rel hr hx
      generalize hxx : a.eval x = xx at hv
      cases hv with
      | @tup _ us hl hh =>
        obtain ⟨u, h3, h4⟩ := VRs.get ⟨hl, hh⟩ h1
        exact wp_value (u := u) (w' := w) (by simp [execOp, hxx, Instr.extract, h3]) (hK u w G h4 sr (Mv.refl G w))
    · cases h
  | call c =>
    simp only [opT, Option.bind_eq_some_iff] at h
    obtain ⟨args, ha, h⟩ := h
    have hargs := evs_rel hr ha
    have ea : (c.args.map a.eval).toList = c.args.toList.map a.eval := by simp
    split at h
    · rename_i b hb
      rw [← ea] at hargs
      obtain ⟨u, w', G', h1, h2, h3, h4⟩ := builtinT_ok ok sr (ty := type) (consts := c.args.map fun | .const _ => true | _ => false) hargs h
      refine wp_value ?_ (hK u w' G' h2 h3 h4)
      simp only [execOp, resolve, hb, Sem.run_bind, Sem.run_pure, Result.andThen_ok, invoke]
      exact h1
    · rename_i x hb
      split at h
      · rename_i f hf
        have hx : x = .func f ∧ cx.mkf f = true := by
          unfold mkOp at hf
          split at hf
          · split at hf
            · cases hf; exact ⟨rfl, ‹_›⟩
            · cases hf
          · cases hf
        obtain ⟨rfl, hmk⟩ := hx
        obtain ⟨⟨fn, hfn, hbn, hnm⟩, hcalls⟩ := mkT_ok cs sr (by rw [← ea] at hargs; exact hargs) hmk h
        refine wp_enter (w' := w) (f := f) (args := c.args.map a.eval) ?_ (hcalls.mono fun e w' he => ?_)
        · simp only [execOp, resolve, hb, Act.eval, Deferred.ofValue, Sem.run_bind, Sem.run_pure, Result.andThen_ok, invoke]
          simpa using run_callFunc hfn hbn hnm (c.args.map a.eval) w
        · cases e with
          | returned u =>
            obtain ⟨G', h1, h2, h3⟩ := he
            exact hK u w' G' h1 h2 h3
          | panicked c => exact he
          | outgrown => exact he
      · rename_i hf0
        obtain ⟨f, hf, h⟩ := Option.bind_eq_some_iff.1 h
        have hv := ev_rel hr hf
        unfold applyT at h
        split at h
        · rename_i fi cap
          split at h
          · cases h
          rename_i hmk
          generalize hxx : a.eval x = xx at hv
          cases hv with
          | @fn _ _ us hl hh =>
            have hall : VRs G w (args ++ cap) (c.args.map a.eval ++ us.toArray).toList := by
              have := hargs.append ⟨hl, hh⟩
              simpa using this
            obtain ⟨⟨fn, hfn, hbn, hnm⟩, hcalls⟩ := callT_ok cs sr hall (by simpa using hmk) h
            refine wp_enter (w' := w) (f := fi) (args := c.args.map a.eval ++ us.toArray) ?_ (hcalls.mono fun e w' he => ?_)
            · simp only [execOp, resolve, hb, hxx, Deferred.ofValue, Sem.run_bind, Sem.run_pure, Result.andThen_ok, invoke]
              simpa using run_callFunc hfn hbn hnm (c.args.map a.eval ++ us.toArray) w
            · cases e with
              | returned u =>
                obtain ⟨G', h1, h2, h3⟩ := he
                exact hK u w' G' h1 h2 h3
              | panicked c => exact he
              | outgrown => exact he
        · cases h
    · cases h
  | _ => simp only [opT] at h; cases h

end M
end Go.Proofs.Ytgkdehfbeejlfaa
