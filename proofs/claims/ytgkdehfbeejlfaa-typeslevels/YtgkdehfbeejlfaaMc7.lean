/- SOUNDNESS 6: make, the built-in functions, calls; one operation as a whole. -/
import Derived.Test.YtgkdehfbeejlfaaMc6
import Derived.IntWalk
set_option linter.unusedVariables false
set_option linter.unusedSimpArgs false
namespace Go.Proofs.Ytgkdehfbeejlfaa
namespace M

theorem makeSliceT_ok {cx : Cx} (ok : CxOk cx) {G : Gh} {w : World} {S S' : St} (sr : SR G S w) {t : Nat} {l c v : AV} {p q : Value} (hl : VR G w l p) (hc : VR G w c q) (h : makeSliceT cx S t l c = some (v, S')) :
    ∃ u w' G', (Instr.makeSlice t p q).run cx.P w = .ok u w' ∧ VR G' w' v u ∧ SR G' S' w' ∧ Mv G w G' w' := by
  unfold makeSliceT at h
  obtain ⟨ti, ht, h⟩ := Option.bind_eq_some_iff.1 h
  obtain ⟨_, z0, _, _, _, _, _, _, hk⟩ := ok.ty t ti ht
  split at h
  · rename_i e he
    unfold KindOk at hk
    rw [he] at hk
    obtain ⟨hu, _⟩ := hk
    simp only [Option.bind_eq_some_iff] at h
    obtain ⟨te, hte, n, hn, m, hm, h⟩ := h
    obtain ⟨ie, z, hie, hse, hby, hze, hce, hzse, hke⟩ := ok.ty e te hte
    by_cases hcnd : n = m ∧ te.bytes ≤ 1024 ∧ te.zero.all AV.isCell = true
    · rw [if_pos hcnd] at h
      cases h
      obtain ⟨rfl, hb, hcell⟩ := hcnd
      obtain ⟨rfl, hle⟩ := natOf_ok hl hn
      obtain ⟨rfl, _⟩ := natOf_ok hc hm
      obtain ⟨r1, r2⟩ := absCells_rel G w _ _ hce
      obtain ⟨z1, z2⟩ := zeros_rel r1 r2 n
      have hp := sr_push sr (t := e) z1 z2
      have hwr : IntKind.i64.wrap (n : Int) = n := IntWalk.i64_in _ (by omega)
      have hbn : (te.bytes : Int) * (n : Int) ≤ 1073741824 := by
        have : te.bytes * n ≤ 1024 * 1048576 := Nat.mul_le_mul hb hle
        have h2 : ((te.bytes * n : Nat) : Int) ≤ ((1024 * 1048576 : Nat) : Int) := by exact_mod_cast this
        simpa using h2
      refine ⟨.slice (some ⟨w.heap.size, 0, none⟩) n n, w.alloc (.cells ((Array.range (n * z.cells.size)).map (z.cells[· % z.cells.size]!)) e), _, ?_, ?_, hp.1, hp.2⟩
      · have t1 : ¬ ((n : Int) < 0) := by omega
        have t2 : ¬ ((te.bytes : Int) * (n : Int) > 2 ^ 48) := by omega
        by_cases h0 : n * te.size = 0
        · have harr : (Array.range (n * z.cells.size)).map (z.cells[· % z.cells.size]!) = #[] := by rw [hzse, h0]; simp
          have hr0 : ∀ g : Nat → Value, (Array.range 0).map g = #[] := fun g => by simp
          rw [harr]
          simp only [Instr.makeSlice, Sem.run_bind, run_underlying hu, Result.andThen_ok, asInt, asIntOf, Sem.run_pure, run_typeInfo hie, hby, hwr, t1, t2, decide_false, Bool.or_false, Bool.or_self, gt_iff_lt, Int.lt_irrefl,
            Bool.false_eq_true, if_false, run_askRoom, Int.toNat_natCast, run_sizeOf hie, hse, h0, if_true, newRow, run_newObj, hr0]
          rfl
        · simp only [Instr.makeSlice, Sem.run_bind, run_underlying hu, Result.andThen_ok, asInt, asIntOf, Sem.run_pure, run_typeInfo hie, hby, hwr, t1, t2, decide_false, Bool.or_false, Bool.or_self, gt_iff_lt, Int.lt_irrefl,
            Bool.false_eq_true, if_false, run_askRoom, Int.toNat_natCast, run_sizeOf hie, hse, h0, run_zeroValue hie hze, hzse, newRow, run_newObj]
          rfl
      · exact .row (o := some w.heap.size) (by rw [sr.len, List.getElem?_append_right (Nat.le_refl _)]; simp) (fun _ e => by cases e; rfl)
    · rw [if_neg hcnd] at h; cases h
  · cases h

/-- The built-in functions. -/
theorem builtinT_ok {cx : Cx} (ok : CxOk cx) {G : Gh} {w : World} {S S' : St} (sr : SR G S w) {b : Builtin} {ts : Array Nat} {ty : Nat} {args : List AV} {vs : List Value} {v : AV} {consts : Array Bool} (hv : VRs G w args vs) (h : builtinT cx S b ts.toList args = some (v, S')) :
    ∃ u w' G', (builtin b ts ty consts vs.toArray).run cx.P w = .ok (.value u) w' ∧ VR G' w' v u ∧ SR G' S' w' ∧ Mv G w G' w' := by
  unfold builtinT at h
  split at h
  · rename_i t tr x xr hts
    obtain ⟨y, ys, rfl, hx, _⟩ := hv.uncons
    obtain ⟨ti, ht, h⟩ := Option.bind_eq_some_iff.1 h
    obtain ⟨_, z0, _, _, _, _, _, _, hk⟩ := ok.ty t ti ht
    have ht0 : ts[0]? = some t := by rw [← Array.getElem?_toList, hts]; rfl
    cases hq : ti.kind with
    | slice e =>
      unfold KindOk at hk
      rw [hq] at hk
      obtain ⟨hu, _⟩ := hk
      rw [hq] at h
      cases x with
      | sl es o =>
        cases h
        cases hx with
        | @sl _ _ A cap sz u hc hz ha hr ho => exact ⟨.int .i64 es.length, w, G, by simp [builtin, Builtin.len_, ht0, run_underlying hu, goInt], .int, sr, Mv.refl G w⟩
      | row b n =>
        cases h
        cases hx with
        | row hl hv => exact ⟨.int .i64 n, w, G, by simp [builtin, Builtin.len_, ht0, run_underlying hu, goInt], .int, sr, Mv.refl G w⟩
      | _ => cases h
    | _ => rw [hq] at h; cases h
  · rename_i t t' s x hts
    by_cases htt : t = t'
    · rw [if_pos htt] at h
      subst htt
      obtain ⟨y, ys, rfl, hs, hv⟩ := hv.uncons
      obtain ⟨q, qs, rfl, hx, hv⟩ := hv.uncons
      obtain rfl : qs = [] := List.eq_nil_of_length_eq_zero (by have := hv.1; simpa using this.symm)
      have hts' : ts = #[t, t] := by
        apply Array.toList_inj.1
        rw [hts]
      subst hts'
      obtain ⟨u, w', G', h1, h2, h3, h4⟩ := appendT_ok ok sr (ty := ty) hs hx h
      exact ⟨u, w', G', by simp [builtin, h1], h2, h3, h4⟩
    · rw [if_neg htt] at h; cases h
  · rename_i k x k' y
    obtain ⟨p, ps, rfl, h1, hv⟩ := hv.uncons
    obtain ⟨q, qs, rfl, h2, hv⟩ := hv.uncons
    obtain rfl : qs = [] := List.eq_nil_of_length_eq_zero (by have := hv.1; simpa using this.symm)
    by_cases hk : k = k'
    · rw [if_pos hk] at h
      cases h
      cases h1; cases h2
      subst hk
      refine ⟨_, w, G, ?_, .int, sr, Mv.refl G w⟩
      simp only [builtin, Sem.run_bind, run_max_int2, Result.andThen_ok, Sem.run_pure]
    · rw [if_neg hk] at h; cases h
  · rename_i k x k' y
    obtain ⟨p, ps, rfl, h1, hv⟩ := hv.uncons
    obtain ⟨q, qs, rfl, h2, hv⟩ := hv.uncons
    obtain rfl : qs = [] := List.eq_nil_of_length_eq_zero (by have := hv.1; simpa using this.symm)
    by_cases hk : k = k'
    · rw [if_pos hk] at h
      cases h
      cases h1; cases h2
      subst hk
      refine ⟨_, w, G, ?_, .int, sr, Mv.refl G w⟩
      simp only [builtin, Sem.run_bind, run_min_int2, Result.andThen_ok, Sem.run_pure]
    · rw [if_neg hk] at h; cases h
  · cases h

end M
end Go.Proofs.Ytgkdehfbeejlfaa
