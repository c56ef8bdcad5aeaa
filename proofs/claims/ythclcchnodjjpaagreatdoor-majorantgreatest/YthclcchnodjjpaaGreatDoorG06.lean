/- A part of the proof: Mc7, Mc8, Mc9, Mc10, Mc11. -/
import Derived.Test.YthclcchnodjjpaaGreatDoorG05
import Derived.IntWalk
/- SOUNDNESS 6: make, the built-in functions, calls; one operation as a whole. -/
set_option linter.unusedVariables false
set_option linter.unusedSimpArgs false
namespace Go.Proofs.YthclcchnodjjpaaGreatDoor
namespace M

theorem makeSliceT_ok {cx : Cx} (ok : CxOk cx) {G : Gh} {w : World} {S S' : St} (sr : SR G S w) {t : Nat} {l c v : AV} {p q : Value} (hl : VR G w l p) (hc : VR G w c q) (h : makeSliceT cx S t l c = some (v, S')) :
    ∃ u w' G', (Instr.makeSlice t p q).run cx.P w = .ok u w' ∧ VR G' w' v u ∧ SR G' S' w' ∧ Mv G w G' w' := by
  unfold makeSliceT at h
  obtain ⟨ti, ht, h⟩ := Option.bind_eq_some_iff.1 h
  obtain ⟨_, z0, _, _, _, _, _, _, hk⟩ := ok.ty t ti ht
  split at h
  · rename_i e he
    unfold KindOk at hk
    rw [he] at hk
    obtain ⟨hu, _⟩ := hk
    simp only [Option.bind_eq_some_iff] at h
    obtain ⟨te, hte, n, hn, m, hm, h⟩ := h
    obtain ⟨ie, z, hie, hse, hby, hze, hce, hzse, hke⟩ := ok.ty e te hte
    by_cases hcnd : n = m ∧ te.bytes ≤ 1024 ∧ te.zero.all AV.isCell = true
    · rw [if_pos hcnd] at h
      cases h
      obtain ⟨rfl, hb, hcell⟩ := hcnd
      obtain ⟨rfl, hle⟩ := natOf_ok hl hn
      obtain ⟨rfl, _⟩ := natOf_ok hc hm
      obtain ⟨r1, r2⟩ := absCells_rel G w _ _ hce
      obtain ⟨z1, z2⟩ := zeros_rel r1 r2 n
      have hp := sr_push sr (t := e) z1 z2
      have hwr : IntKind.i64.wrap (n : Int) = n := IntWalk.i64_in _ (by omega)
      have hbn : (te.bytes : Int) * (n : Int) ≤ 1073741824 := by
        have : te.bytes * n ≤ 1024 * 1048576 := Nat.mul_le_mul hb hle
        have h2 : ((te.bytes * n : Nat) : Int) ≤ ((1024 * 1048576 : Nat) : Int) := by exact_mod_cast this
        simpa using h2
      refine ⟨.slice (some ⟨w.heap.size, 0, none⟩) n n, w.alloc (.cells ((Array.range (n * z.cells.size)).map (z.cells[· % z.cells.size]!)) e), _, ?_, ?_, hp.1, hp.2⟩
      · have t1 : ¬ ((n : Int) < 0) := by omega
        have t2 : ¬ ((te.bytes : Int) * (n : Int) > 2 ^ 48) := by omega
        by_cases h0 : n * te.size = 0
        · have harr : (Array.range (n * z.cells.size)).map (z.cells[· % z.cells.size]!) = #[] := by rw [hzse, h0]; simp
          have hr0 : ∀ g : Nat → Value, (Array.range 0).map g = #[] := fun g => by simp
          rw [harr]
          simp only [Instr.makeSlice, Sem.run_bind, run_underlying hu, Result.andThen_ok, asInt, asIntOf, Sem.run_pure, run_typeInfo hie, hby, hwr, t1, t2, decide_false, Bool.or_false, Bool.or_self, gt_iff_lt, Int.lt_irrefl,
            Bool.false_eq_true, if_false, run_askRoom, Int.toNat_natCast, run_sizeOf hie, hse, h0, if_true, newRow, run_newObj, hr0]
          rfl
        · simp only [Instr.makeSlice, Sem.run_bind, run_underlying hu, Result.andThen_ok, asInt, asIntOf, Sem.run_pure, run_typeInfo hie, hby, hwr, t1, t2, decide_false, Bool.or_false, Bool.or_self, gt_iff_lt, Int.lt_irrefl,
            Bool.false_eq_true, if_false, run_askRoom, Int.toNat_natCast, run_sizeOf hie, hse, h0, run_zeroValue hie hze, hzse, newRow, run_newObj]
          rfl
      · exact .row (o := some w.heap.size) (by rw [sr.len, List.getElem?_append_right (Nat.le_refl _)]; simp) (fun _ e => by cases e; rfl)
    · rw [if_neg hcnd] at h; cases h
  · cases h

/-- The built-in functions. -/
theorem builtinT_ok {cx : Cx} (ok : CxOk cx) {G : Gh} {w : World} {S S' : St} (sr : SR G S w) {b : Builtin} {ts : Array Nat} {ty : Nat} {args : List AV} {vs : List Value} {v : AV} {consts : Array Bool} (hv : VRs G w args vs) (h : builtinT cx S b ts.toList args = some (v, S')) :
    ∃ u w' G', (builtin b ts ty consts vs.toArray).run cx.P w = .ok (.value u) w' ∧ VR G' w' v u ∧ SR G' S' w' ∧ Mv G w G' w' := by
  unfold builtinT at h
  split at h
  · rename_i t tr x xr hts
    obtain ⟨y, ys, rfl, hx, _⟩ := hv.uncons
    obtain ⟨ti, ht, h⟩ := Option.bind_eq_some_iff.1 h
    obtain ⟨_, z0, _, _, _, _, _, _, hk⟩ := ok.ty t ti ht
    have ht0 : ts[0]? = some t := by rw [← Array.getElem?_toList, hts]; rfl
    cases hq : ti.kind with
    | slice e =>
      unfold KindOk at hk
      rw [hq] at hk
      obtain ⟨hu, _⟩ := hk
      rw [hq] at h
      cases x with
      | sl es o =>
        cases h
        cases hx with
        | @sl _ _ A cap sz u hc hz ha hr ho => exact ⟨.int .i64 es.length, w, G, by simp [builtin, Builtin.len_, ht0, run_underlying hu, goInt], .int, sr, Mv.refl G w⟩
      | row b n =>
        cases h
        cases hx with
        | row hl hv => exact ⟨.int .i64 n, w, G, by simp [builtin, Builtin.len_, ht0, run_underlying hu, goInt], .int, sr, Mv.refl G w⟩
      | _ => cases h
    | _ => rw [hq] at h; cases h
  · rename_i t t' s x hts
    by_cases htt : t = t'
    · rw [if_pos htt] at h
      subst htt
      obtain ⟨y, ys, rfl, hs, hv⟩ := hv.uncons
      obtain ⟨q, qs, rfl, hx, hv⟩ := hv.uncons
      obtain rfl : qs = [] := List.eq_nil_of_length_eq_zero (by have := hv.1; simpa using this.symm)
      have hts' : ts = #[t, t] := by
        apply Array.toList_inj.1
        rw [hts]
      subst hts'
      obtain ⟨u, w', G', h1, h2, h3, h4⟩ := appendT_ok ok sr (ty := ty) hs hx h
      exact ⟨u, w', G', by simp [builtin, h1], h2, h3, h4⟩
    · rw [if_neg htt] at h; cases h
  · rename_i k x k' y
    obtain ⟨p, ps, rfl, h1, hv⟩ := hv.uncons
    obtain ⟨q, qs, rfl, h2, hv⟩ := hv.uncons
    obtain rfl : qs = [] := List.eq_nil_of_length_eq_zero (by have := hv.1; simpa using this.symm)
    by_cases hk : k = k'
    · rw [if_pos hk] at h
      cases h
      cases h1; cases h2
      subst hk
      refine ⟨_, w, G, ?_, .int, sr, Mv.refl G w⟩
      simp only [builtin, Sem.run_bind, run_max_int2, Result.andThen_ok, Sem.run_pure]
    · rw [if_neg hk] at h; cases h
  · rename_i k x k' y
    obtain ⟨p, ps, rfl, h1, hv⟩ := hv.uncons
    obtain ⟨q, qs, rfl, h2, hv⟩ := hv.uncons
    obtain rfl : qs = [] := List.eq_nil_of_length_eq_zero (by have := hv.1; simpa using this.symm)
    by_cases hk : k = k'
    · rw [if_pos hk] at h
      cases h
      cases h1; cases h2
      subst hk
      refine ⟨_, w, G, ?_, .int, sr, Mv.refl G w⟩
      simp only [builtin, Sem.run_bind, run_min_int2, Result.andThen_ok, Sem.run_pure]
    · rw [if_neg hk] at h; cases h
  · cases h

end M
end Go.Proofs.YthclcchnodjjpaaGreatDoor
/- SOUNDNESS 7: calls: what is handed over, and what comes back. -/
set_option linter.unusedVariables false
set_option linter.unusedSimpArgs false
set_option linter.unusedSectionVars false
namespace Go.Proofs.YthclcchnodjjpaaGreatDoor
namespace M

theorem mapLocs_eq (g : Nat → Nat → AV) : ∀ l : List AV, mapLocs g l = l.map (mapLoc g)
  | [] => rfl
  | x :: l => by simp only [mapLocs, List.map_cons, mapLocs_eq g l]

theorem mapLocss_eq (g : Nat → Nat → AV) : ∀ l : List (List AV), mapLocss g l = l.map (mapLocs g)
  | [] => rfl
  | x :: l => by simp only [mapLocss, List.map_cons, mapLocss_eq g l]

section
variable (g g' : Nat → Nat → AV) (hg : ∀ b o, mapLoc g' (g b o) = g b o)
  include hg
mutual
theorem mapLoc_fix : ∀ v : AV, mapLoc g' (mapLoc g v) = mapLoc g v
  | .undef => rfl
  | .bool _ => rfl
  | .int _ _ => rfl
  | .agg cs => by simp only [mapLoc, mapLocs_fix cs]
  | .tup cs => by simp only [mapLoc, mapLocs_fix cs]
  | .sl es o => by simp only [mapLoc, mapLocss_fix es]
  | .row _ _ => rfl
  | .loc b off => hg b off
  | .rp cs => by simp only [mapLoc, mapLocs_fix cs]
  | .nilp => rfl
  | .fn f cs => by simp only [mapLoc, mapLocs_fix cs]
  | .nilf => rfl
  | .iface t v => by simp only [mapLoc, mapLoc_fix v]
  | .nili => rfl
theorem mapLocs_fix : ∀ l : List AV, mapLocs g' (mapLocs g l) = mapLocs g l
  | [] => rfl
  | v :: l => by simp only [mapLocs, mapLoc_fix v, mapLocs_fix l]
theorem mapLocss_fix : ∀ l : List (List AV), mapLocss g' (mapLocss g l) = mapLocss g l
  | [] => rfl
  | v :: l => by simp only [mapLocss, mapLocs_fix v, mapLocss_fix l]
end
end

theorem dd_dd (v : AV) : dd (dd v) = dd v := mapLoc_fix _ _ (fun _ _ => rfl) v
theorem dd_rp (cs : List AV) : dd (.rp (cs.map dd)) = .rp (cs.map dd) := by
  unfold dd
  simp only [mapLoc, mapLocs_eq, List.map_map]
  congr 1
  exact List.map_congr_left fun v _ => dd_dd v

theorem dd_fz (σ : List (List AV)) (n : Nat) : ∀ (k : Nat) (v : AV), dd (fz σ n k v) = fz σ n k v
  | 0, v => dd_dd v
  | k + 1, v => by
    refine mapLoc_fix _ _ (fun b off => ?_) v
    by_cases h : b < n
    · simp only [if_pos h, mapLoc]
    · simp only [if_neg h]
      split
      · simp only [mapLoc, mapLocs_eq, List.map_map]
        congr 1
        exact List.map_congr_left fun v _ => dd_fz σ n k v
      · rfl

theorem VR.conv {G G' : Gh} {w w' : World} (hc : ∀ (a : Addr) (u : Value), w.cell? a = some u → Stab G w a → w'.cell? a = some u ∧ Stab G' w' a) {a : AV} {v : Value} (h : VR G w a v) (hd : dd a = a) : VR G' w' a v := by
  have := VR.weaken hc (fun _ _ => .undef) h (fun _ _ _ _ => .undef)
  rwa [show mapLoc (fun _ _ => AV.undef) a = a from hd] at this

theorem globs_dd : ∀ e ∈ globs, dd (.rp e.2) = .rp e.2 := by
  intro e he
  unfold globs at he
  first | exact absurd he List.not_mem_nil | (simp only [List.mem_singleton] at he; subst he; rfl)
theorem Glb.conv {G G' : Gh} {w w' : World} (hc : ∀ (a : Addr) (u : Value), w.cell? a = some u → Stab G w a → w'.cell? a = some u ∧ Stab G' w' a) (gl : Glb G w) : Glb G' w' := fun e he => (gl e he).conv hc (globs_dd e he)

theorem VR.dd {G G' : Gh} {w w' : World} (hc : ∀ (a : Addr) (u : Value), w.cell? a = some u → Stab G w a → w'.cell? a = some u ∧ Stab G' w' a) {a : AV} {v : Value} (h : VR G w a v) : VR G' w' (dd a) v :=
  VR.weaken hc (fun _ _ => .undef) h (fun _ _ _ _ => .undef)

theorem VRs.dd {G G' : Gh} {w w' : World} (hc : ∀ (a : Addr) (u : Value), w.cell? a = some u → Stab G w a → w'.cell? a = some u ∧ Stab G' w' a) {cs : List AV} {vs : List Value} (h : VRs G w cs vs) : VRs G' w' (cs.map dd) vs :=
  ⟨by simp [h.1], fun i a b => by
    simp only [List.getElem_map]
    exact (h.2 i (by simpa using a) b).dd hc⟩

theorem same_cells {G : Gh} {w : World} : ∀ (a : Addr) (u : Value), w.cell? a = some u → Stab G w a → w.cell? a = some u ∧ Stab G w a := fun _ _ h s => ⟨h, s⟩

/-- A place of the store is given away. -/
theorem give_ok {G : Gh} {w : World} {σ σ' : List (List AV)} {tk : List Nat} {v v' : AV} {x : Value} (sr : SR G ⟨σ, tk⟩ w) (hv : VR G w v x) (h : give σ v = some (v', σ')) :
    ∃ G', SR G' ⟨σ', tk⟩ w ∧ Mv G w G' w ∧ M.dd v' = v' ∧ VR G' w v' x := by
  unfold give at h
  split at h
  · rename_i b off
    obtain ⟨cs, hcs, h⟩ := Option.bind_eq_some_iff.1 h
    split at h
    · cases h
    · rename_i hne
      cases h
      have hne : cs ≠ [] := fun e => hne (by rw [e]; rfl)
      obtain ⟨blk, vs, t, g1, g2, g3, g4⟩ := sr.blk b cs hcs hne
      cases hv with
      | @loc _ _ a o hl hvv =>
        rw [g1] at hl
        cases hl
        have ha := hvv blk rfl
        subst ha
        let G' : Gh := ⟨G.loc.set b none, G.tok, G.out⟩
        have msub : ∀ c, some c ∈ G'.loc → some c ∈ G.loc := fun c hm => by
          rcases List.mem_or_eq_of_mem_set hm with h | h
          · exact h
          · cases h
        have gl : ∀ (i c : Nat), G'.loc[i]? = some (some c) → i ≠ b ∧ G.loc[i]? = some (some c) := fun i c h => by
          simp only [G', List.getElem?_set] at h
          split at h
          · split at h <;> cases h
          · exact ⟨fun e => by subst e; contradiction, h⟩
        have nm : some blk ∉ G'.loc := fun hm => by
          obtain ⟨j, hj⟩ := List.getElem?_of_mem hm
          obtain ⟨h1, h2⟩ := gl j blk hj
          exact h1 (sr.nd j b blk h2 g1)
        have ge : Ge G w G' w := {
          cell := fun a u hc s => ⟨hc, s.1, fun hm => s.2.1 (msub _ hm), s.2.2⟩
          loc := fun i o l => by
            by_cases hib : b = i
            · subst hib
              right
              simp only [G', List.getElem?_set_self (List.getElem?_eq_some_iff.1 g1).1]
            · left; simp only [G', List.getElem?_set_ne hib]; exact l
          tok := fun i v b k h => ⟨v, b, k, h, Nat.le_refl v, fun _ => ⟨rfl, rfl, fun _ h => h⟩⟩
          out := rfl }
        refine ⟨G', ⟨by simp [G', sr.len], fun i c hi hn => ?_, fun i j c hi hj => sr.nd i j c (gl i c hi).2 (gl j c hj).2, sr.tk, sr.tnd, fun e he hm => sr.dis e he (msub _ hm), sr.tlt, fun c hm => sr.llt c (msub c hm),
          fun e he => ⟨(sr.od e he).1, fun hm => (sr.od e he).2.1 (msub _ hm), (sr.od e he).2.2⟩, fun e he => (sr.gl e he).mono ge⟩,
          ⟨ge, rfl, rfl, rfl, Nat.le_refl _, fun _ _ _ _ => rfl, fun c hm => .inl (msub c hm), fun e he => .inl ⟨e, he, rfl⟩⟩, dd_rp _, ?_⟩
        · simp only [List.getElem?_set] at hi
          split at hi
          · split at hi
            · cases hi; exact absurd rfl hn
            · cases hi
          · rename_i hib
            obtain ⟨b', us, ty, q1, q2, q3, q4⟩ := sr.blk i c hi hn
            exact ⟨b', us, ty, by simp only [G', List.getElem?_set_ne hib]; exact q1, q2, q3.mono ge, q4⟩
        · have hlen : cs.length = vs.size := by have := g3.1; simpa using this
          refine .rp (fun j => vs.toList.getD (off + j) Go.undef) (fun j hj => ?_) (fun j hj => ?_)
          · simp only [List.length_map, List.length_drop] at hj
            have hlt : off + j < vs.toList.length := by simp; omega
            have hg : vs.toList.getD (off + j) Go.undef = vs.toList[off + j] := by simp only [List.getD, List.getElem?_eq_getElem hlt, Option.getD_some]
            have hadd : (⟨blk, off, none⟩ : Addr).add j = ⟨blk, off + j, none⟩ := by unfold Addr.add; split <;> simp_all
            rw [hadd, hg]
            refine ⟨?_, ⟨heap_lt g2, nm, fun e he hb => absurd (by simpa [hb] using List.mem_of_getElem? g1) (sr.dis e he), fun e he hb => absurd (by simpa [hb] using List.mem_of_getElem? g1) (sr.od e he).2.1⟩, g4 _ (List.getElem_mem hlt)⟩
            rw [cell_of_row _ _ _ vs t (0, 0) g2]
            simp
          · simp only [List.length_map, List.length_drop] at hj
            have hlt : off + j < vs.toList.length := by simp; omega
            have hg : vs.toList.getD (off + j) Go.undef = vs.toList[off + j] := by simp only [List.getD, List.getElem?_eq_getElem hlt, Option.getD_some]
            simp only [hg, List.getElem_map, List.getElem_drop]
            exact (g3.2 (off + j) (by omega) hlt).dd ge.cell
  · cases h
    exact ⟨G, sr, Mv.refl G w, dd_dd _, hv.dd same_cells⟩

theorem gives_ok {w : World} {tk : List Nat} : ∀ (cs : List AV) {G : Gh} {σ σ' : List (List AV)} {cs' : List AV} {xs : List Value}, SR G ⟨σ, tk⟩ w → VRs G w cs xs → gives σ cs = some (cs', σ') →
    ∃ G', SR G' ⟨σ', tk⟩ w ∧ Mv G w G' w ∧ (∀ c ∈ cs', dd c = c) ∧ VRs G' w cs' xs
  | [], G, σ, σ', cs', xs, sr, hv, h => by
    cases h
    have : xs = [] := List.eq_nil_of_length_eq_zero (by have := hv.1; simpa using this.symm)
    subst this
    exact ⟨G, sr, Mv.refl G w, by simp, VRs.nil G w⟩
  | v :: cs, G, σ, σ', cs', xs, sr, hv, h => by
    simp only [gives, Option.bind_eq_some_iff, Option.map_eq_some_iff] at h
    obtain ⟨⟨v1, σ1⟩, h1, ⟨cs1, σ2⟩, h2, h3⟩ := h
    cases h3
    obtain ⟨x, xs, rfl, hx, hxs⟩ := hv.uncons
    obtain ⟨G1, sr1, mv1, d1, r1⟩ := give_ok sr hx h1
    obtain ⟨G2, sr2, mv2, d2, r2⟩ := gives_ok cs sr1 (hxs.mono mv1.ge) h2
    refine ⟨G2, sr2, mv1.trans mv2, fun c hc => ?_, .cons (r1.mono mv2.ge) r2⟩
    rcases List.mem_cons.1 hc with rfl | hc
    · exact d1
    · exact d2 c hc

/-- An argument as the callee gets it. -/
def VA (G : Gh) (w : World) (refs : List Nat) (v : AV) (x : Value) : Prop := (dd v = v ∧ VR G w v x) ∨ ∃ k b, v = .loc k 0 ∧ refs[k]? = some b ∧ VR G w (.loc b 0) x

theorem VA.mono {G G' : Gh} {w w' : World} (hg : Ge G w G' w') {refs e : List Nat} {v : AV} {x : Value} (h : VA G w refs v x) : VA G' w' (refs ++ e) v x := by
  rcases h with ⟨h1, h2⟩ | ⟨k, b, h1, h2, h3⟩
  · exact .inl ⟨h1, h2.mono hg⟩
  · exact .inr ⟨k, b, h1, by rw [List.getElem?_append_left (List.getElem?_eq_some_iff.1 h2).1]; exact h2, h3.mono hg⟩

theorem handOne_ok {cx : Cx} {w : World} {tk : List Nat} {G : Gh} {t : Nat} {refs refs' : List Nat} {σ σ' : List (List AV)} {v v' : AV} {x : Value} (sr : SR G ⟨σ, tk⟩ w) (hv : VR G w v x) (h : handOne cx t refs σ v = some (v', refs', σ')) :
    ∃ G', SR G' ⟨σ', tk⟩ w ∧ Mv G w G' w ∧ (refs' = refs ∨ ∃ b, refs' = refs ++ [b] ∧ b ∉ refs) ∧ VA G' w refs' v' x := by
  have plain : ∀ {v : AV}, VR G w v x → ∃ G', SR G' ⟨σ, tk⟩ w ∧ Mv G w G' w ∧ (refs = refs ∨ ∃ b, refs = refs ++ [b] ∧ b ∉ refs) ∧ VA G' w refs (dd v) x := fun hv =>
    ⟨G, sr, Mv.refl G w, .inl rfl, .inl ⟨dd_dd _, hv.dd same_cells⟩⟩
  unfold handOne at h
  split at h
  · rename_i b off
    split at h
    · cases h
    · split at h
      · split at h
        · rename_i hc
          obtain ⟨rfl, hnc⟩ := hc
          cases h
          exact ⟨G, sr, Mv.refl G w, .inr ⟨b, rfl, by simpa using hnc⟩, .inr ⟨refs.length, b, rfl, by simp, hv⟩⟩
        · cases h
      · obtain ⟨⟨v1, σ1⟩, h1, h2⟩ := Option.map_eq_some_iff.1 h
        cases h2
        obtain ⟨G1, sr1, mv1, d1, r1⟩ := give_ok sr hv h1
        exact ⟨G1, sr1, mv1, .inl rfl, .inl ⟨d1, r1⟩⟩
  · rename_i f cs
    split at h
    · cases h
    · obtain ⟨⟨cs1, σ1⟩, h1, h2⟩ := Option.map_eq_some_iff.1 h
      cases h2
      cases hv with
      | @fn _ _ us hl hr =>
        obtain ⟨G1, sr1, mv1, d1, r1⟩ := gives_ok cs sr ⟨hl, hr⟩ h1
        refine ⟨G1, sr1, mv1, .inl rfl, .inl ⟨?_, .fn r1.1 r1.2⟩⟩
        unfold dd
        simp only [mapLoc, mapLocs_eq]
        congr 1
        exact (List.map_congr_left (g := id) fun c hc => d1 c hc).trans (List.map_id _)
  · cases h
    exact plain hv

theorem hand_ok {cx : Cx} {w : World} {tk : List Nat} : ∀ (args : List AV) {G : Gh} {ts refs : List Nat} {σ : List (List AV)} {vs : List Value} {o : Over}, SR G ⟨σ, tk⟩ w → VRs G w args vs → hand cx ts refs σ args = some o →
    ∃ G', SR G' ⟨o.σ, tk⟩ w ∧ Mv G w G' w ∧ (∃ e, o.refs = refs ++ e) ∧ (refs.Nodup → o.refs.Nodup) ∧ o.args.length = vs.length ∧ ∀ (i : Nat) (a : AV) (x : Value), o.args[i]? = some a → vs[i]? = some x → VA G' w o.refs a x
  | [], G, ts, refs, σ, vs, o, sr, hv, h => by
    have : vs = [] := List.eq_nil_of_length_eq_zero (by have := hv.1; simpa using this.symm)
    subst this
    simp only [hand] at h
    cases h
    exact ⟨G, sr, Mv.refl G w, ⟨[], by simp⟩, id, rfl, fun i a x h => by simp at h⟩
  | v :: args, G, ts, refs, σ, vs, o, sr, hv, h => by
    simp only [hand, Option.bind_eq_some_iff, Option.map_eq_some_iff] at h
    obtain ⟨⟨v1, refs1, σ1⟩, h1, o1, h2, rfl⟩ := h
    obtain ⟨x, xs, rfl, hx, hxs⟩ := hv.uncons
    obtain ⟨G1, sr1, mv1, q1, a1⟩ := handOne_ok sr hx h1
    obtain ⟨G2, sr2, mv2, ⟨e, q2⟩, nd2, len2, a2⟩ := hand_ok args sr1 (hxs.mono mv1.ge) h2
    refine ⟨G2, sr2, mv1.trans mv2, ?_, fun hn => nd2 ?_, by simp [len2], fun i a y hi hy => ?_⟩
    · rcases q1 with q1 | ⟨b, q1, _⟩
      · exact ⟨e, by simp only [q2, q1]⟩
      · exact ⟨[b] ++ e, by simp only [q2, q1, List.append_assoc]⟩
    · rcases q1 with q1 | ⟨b, q1, hb⟩
      · simp only [q1]; exact hn
      · simp only [q1]
        rw [List.nodup_append]
        exact ⟨hn, by simp, fun a ha c hc => by simp at hc; subst hc; intro e; subst e; exact hb ha⟩
    · cases i with
      | zero =>
        simp at hi hy
        subst hi; subst hy
        simp only [q2]
        exact a1.mono mv2.ge
      | succ i => exact a2 i a y (by simpa using hi) (by simpa using hy)

end M
end Go.Proofs.YthclcchnodjjpaaGreatDoor
/- SOUNDNESS 8: the world as a callee sees it; a call as a whole. -/
set_option linter.unusedVariables false
set_option linter.unusedSimpArgs false
namespace Go.Proofs.YthclcchnodjjpaaGreatDoor
namespace M

/-- The callee's ghost: its blocks are those handed by reference; all else that may change is others'. -/
def calleeG (G : Gh) (refs : List Nat) : Gh :=
  let locs := refs.map fun b => (G.loc[b]?).getD none
  ⟨locs, [], G.out ++ G.tok.map (·.2) ++ G.loc.filterMap fun o => o.bind fun b => if some b ∈ locs then none else some (b, 0)⟩

theorem callee_loc {G : Gh} {refs : List Nat} {b : Nat} (h : some b ∈ (calleeG G refs).loc) : ∃ (k i : Nat), refs[k]? = some i ∧ G.loc[i]? = some (some b) := by
  obtain ⟨i, hi, e⟩ := List.mem_map.1 h
  obtain ⟨k, hk⟩ := List.getElem?_of_mem hi
  refine ⟨k, i, hk, ?_⟩
  cases hg : G.loc[i]? with
  | none => rw [hg] at e; cases e
  | some o => rw [hg] at e; exact congrArg some e

theorem callee_stab {G : Gh} {w : World} {refs : List Nat} {a : Addr} : Stab (calleeG G refs) w a ↔ Stab G w a := by
  constructor
  · intro s
    refine ⟨s.1, fun hm => ?_, fun e he hb => s.2.2.2 e.2 (List.mem_append_left _ (List.mem_append_right _ (List.mem_map.2 ⟨e, he, rfl⟩))) hb, fun e he hb => s.2.2.2 e (List.mem_append_left _ (List.mem_append_left _ he)) hb⟩
    have := s.2.2.2 (a.block, 0) (List.mem_append_right _ (List.mem_filterMap.2 ⟨some a.block, hm, by
      simp only [Option.bind_some]
      exact if_neg s.2.1⟩)) rfl
    simp at this
  · intro s
    refine ⟨s.1, fun hm => ?_, fun e he => by simp [calleeG] at he, fun e he hb => ?_⟩
    · obtain ⟨k, i, _, h⟩ := callee_loc hm
      exact s.2.1 (List.mem_of_getElem? h)
    · rcases List.mem_append.1 he with he | he
      · rcases List.mem_append.1 he with he | he
        · exact s.2.2.2 e he hb
        · obtain ⟨x, hx, rfl⟩ := List.mem_map.1 he
          exact s.2.2.1 x hx hb
      · obtain ⟨o, ho, h⟩ := List.mem_filterMap.1 he
        cases o with
        | none => cases h
        | some b =>
          simp only [Option.bind_some] at h
          split at h
          · cases h
          · cases h
            exact absurd (hb ▸ ho) s.2.1

theorem callee_sr {G : Gh} {w : World} {S : St} {refs : List Nat} (sr : SR G S w) (nd : refs.Nodup) (hne : ∀ b ∈ refs, (S.σ[b]?).getD [] ≠ []) :
    SR (calleeG G refs) ⟨refs.map fun b => ((S.σ[b]?).getD []).map dd, []⟩ w where
  len := by simp [calleeG]
  blk := fun i cs hi hn => by
    simp only [List.getElem?_map, Option.map_eq_some_iff] at hi
    obtain ⟨b, hb, rfl⟩ := hi
    cases hs : S.σ[b]? with
    | none => exact absurd (by rw [hs]; rfl) (hne b (List.mem_of_getElem? hb))
    | some cs =>
      have hc : cs ≠ [] := by have := hne b (List.mem_of_getElem? hb); rw [hs] at this; exact this
      obtain ⟨blk, vs, t, g1, g2, g3, g4⟩ := sr.blk b cs hs hc
      refine ⟨blk, vs, t, ?_, g2, ?_, g4⟩
      · simp only [calleeG, List.getElem?_map, hb, Option.map_some, g1, Option.getD_some]
      · exact g3.dd fun a u h s => ⟨h, callee_stab.2 s⟩
  nd := fun i j b hi hj => by
    simp only [calleeG, List.getElem?_map, Option.map_eq_some_iff] at hi hj
    obtain ⟨x, hx, ex⟩ := hi
    obtain ⟨y, hy, ey⟩ := hj
    have gx : G.loc[x]? = some (some b) := by
      cases hg : G.loc[x]? with
      | none => rw [hg] at ex; cases ex
      | some o => rw [hg] at ex; exact congrArg some ex
    have gy : G.loc[y]? = some (some b) := by
      cases hg : G.loc[y]? with
      | none => rw [hg] at ey; cases ey
      | some o => rw [hg] at ey; exact congrArg some ey
    have := sr.nd x y b gx gy
    subst this
    exact (List.getElem?_inj (List.getElem?_eq_some_iff.1 hx).1 nd).1 (hx.trans hy.symm)
  tk := rfl
  tnd := fun i j v b k v' k' h => by simp [calleeG] at h
  dis := fun e he => by simp [calleeG] at he
  tlt := fun e he => by simp [calleeG] at he
  llt := fun b hb => by
    obtain ⟨k, i, _, h⟩ := callee_loc hb
    exact sr.llt b (List.mem_of_getElem? h)
  gl := sr.gl.conv fun a u h s => ⟨h, callee_stab.2 s⟩
  od := fun e he => by
    refine ⟨?_, fun hm => ?_, fun e' he' => by simp [calleeG] at he'⟩
    · rcases List.mem_append.1 he with he | he
      · rcases List.mem_append.1 he with he | he
        · exact (sr.od e he).1
        · obtain ⟨x, hx, rfl⟩ := List.mem_map.1 he
          exact sr.tlt x hx
      · obtain ⟨o, ho, h⟩ := List.mem_filterMap.1 he
        cases o with
        | none => cases h
        | some b =>
          simp only [Option.bind_some] at h
          split at h
          · cases h
          · cases h
            exact sr.llt b ho
    · obtain ⟨k, i, hk, h⟩ := callee_loc hm
      rcases List.mem_append.1 he with he | he
      · rcases List.mem_append.1 he with he | he
        · exact (sr.od e he).2.1 (List.mem_of_getElem? h)
        · obtain ⟨x, hx, rfl⟩ := List.mem_map.1 he
          exact sr.dis x hx (List.mem_of_getElem? h)
      · obtain ⟨o, ho, h'⟩ := List.mem_filterMap.1 he
        cases o with
        | none => cases h'
        | some b =>
          simp only [Option.bind_some] at h'
          split at h'
          · cases h'
          · rename_i hn
            cases h'
            exact hn hm

/-- What a callee promises, seen from outside. -/
def Promise (P : Program) (f : Nat) (args : List AV) (σ0 : List (List AV)) (r : AV) (σ1 : List (List AV)) : Prop :=
  ∀ (G : Gh) (w : World) (vs : Array Value), G.tok = [] → SR G ⟨σ0, []⟩ w → VRs G w args vs.toList → Calls P f vs w fun e w' => match e with
    | .returned v => VR G w' r v ∧ SR G ⟨σ1, []⟩ w' ∧ Mv G w G w'
    | _ => False

/-- The same of a function that makes a place. -/
def MkPromise (P : Program) (f : Nat) (args : List AV) (cs : List AV) : Prop :=
  ∀ (G : Gh) (w : World) (vs : Array Value), G.tok = [] → G.loc = [] → SR G ⟨[], []⟩ w → VRs G w args vs.toList → Calls P f vs w fun e w' => match e with
    | .returned v => ∃ b, v = .pointer (some ⟨b, 0, none⟩) ∧ w.heap.size ≤ b ∧ SR ⟨[some b], [], G.out⟩ ⟨[cs], []⟩ w' ∧ Mv G w G w'
    | _ => False

/-- The oracle's answers are what the program's functions return. -/
def CSound (cx : Cx) (C : Oracle) : Prop := ∀ (f : Nat) (args : List AV) (σ0 : List (List AV)) (r : AV) (σ1 : List (List AV)), C f args σ0 = some (r, σ1) → (∀ c ∈ σ0, c ≠ []) →
  (∃ fn, cx.P.funcs[f]? = some fn ∧ fn.body.isNone = false ∧ (fn.name == "runtime.NumGoroutine") = false) ∧
  (cx.mkf f = true → ∀ cs, σ0 = [] → r = .loc 0 0 → σ1 = [cs] → cs ≠ [] ∧ (∀ x ∈ cs, dd x = x) ∧ MkPromise cx.P f args cs) ∧ (cx.mkf f = false → dd r = r ∧ σ1.length = σ0.length ∧ (∀ c ∈ σ1, c ≠ [] ∧ ∀ x ∈ c, dd x = x) ∧ Promise cx.P f args σ0 r σ1)

theorem putBack_length : ∀ (refs : List Nat) (css σ : List (List AV)), (putBack σ refs css).length = σ.length
  | [], css, σ => by cases css <;> rfl
  | b :: bs, [], σ => rfl
  | b :: bs, c :: css, σ => by simp only [putBack]; rw [putBack_length bs css]; simp

theorem putBack_get : ∀ (refs : List Nat) (css σ : List (List AV)) (i : Nat) (c : List AV), refs.Nodup → (putBack σ refs css)[i]? = some c →
    (∃ k : Nat, refs[k]? = some i ∧ css[k]? = some c) ∨ ((i ∉ refs ∨ refs.length ≠ css.length) ∧ σ[i]? = some c)
  | [], css, σ, i, c, nd, h => .inr ⟨.inl (by simp), by cases css <;> exact h⟩
  | b :: bs, [], σ, i, c, nd, h => .inr ⟨.inr (by simp), h⟩
  | b :: bs, d :: css, σ, i, c, nd, h => by
    simp only [putBack] at h
    rcases putBack_get bs css _ i c (List.nodup_cons.1 nd).2 h with ⟨k, h1, h2⟩ | ⟨h1, h2⟩
    · exact .inl ⟨k + 1, h1, h2⟩
    · by_cases hb : b = i
      · subst hb
        simp only [List.getElem?_set] at h2
        split at h2
        · split at h2
          · cases h2; exact .inl ⟨0, rfl, rfl⟩
          · cases h2
        · contradiction
      · rw [List.getElem?_set_ne hb] at h2
        refine .inr ⟨?_, h2⟩
        rcases h1 with h1 | h1
        · exact .inl (by simp only [List.mem_cons, not_or]; exact ⟨Ne.symm hb, h1⟩)
        · exact .inr (by simpa using h1)

/-- A call, from the caller's side. -/
theorem callT_ok {cx : Cx} {C : Oracle} (cs : CSound cx C) {G : Gh} {w : World} {S S' : St} {f : Nat} {args : List AV} {vs : Array Value} {v : AV} (sr : SR G S w) (hv : VRs G w args vs.toList) (hmk : cx.mkf f = false) (h : callT cx C S f args = some (v, S')) :
    (∃ fn, cx.P.funcs[f]? = some fn ∧ fn.body.isNone = false ∧ (fn.name == "runtime.NumGoroutine") = false) ∧ Calls cx.P f vs w fun e w' => match e with
      | .returned u => ∃ G', VR G' w' v u ∧ SR G' S' w' ∧ Mv G w G' w'
      | _ => False := by
  simp only [callT, Option.bind_eq_some_iff] at h
  obtain ⟨fn, hf, o, ho, h⟩ := h
  split at h
  · cases h
  · rename_i hne
    obtain ⟨⟨r, σ1⟩, hc, h⟩ := Option.map_eq_some_iff.1 h
    cases h
    obtain ⟨G1, sr1, mv1, _, nd1, len1, a1⟩ := hand_ok (tk := S.tk) args sr hv ho
    have nd := nd1 List.nodup_nil
    have hne' : ∀ b ∈ o.refs, (o.σ[b]?).getD [] ≠ [] := fun b hb he => hne (List.any_eq_true.2 ⟨b, hb, by rw [he]; rfl⟩)
    have sr2 := callee_sr sr1 nd hne'
    have va : VRs (calleeG G1 o.refs) w o.args vs.toList := by
      refine ⟨len1, fun i p q => ?_⟩
      rcases a1 i _ _ (List.getElem?_eq_getElem p) (List.getElem?_eq_getElem q) with ⟨d, h⟩ | ⟨k, b, e, hk, h⟩
      · exact h.conv (fun a u h s => ⟨h, callee_stab.2 s⟩) d
      · rw [e]
        generalize vs.toList[i] = x at h
        cases h with
        | @loc _ _ a' o' hl hvv => exact .loc (o := o') (by simp only [calleeG, List.getElem?_map, hk, Option.map_some, hl, Option.getD_some]) hvv
    obtain ⟨hfn, _, hplain⟩ := cs f o.args _ r σ1 hc (fun c hm => by
      obtain ⟨b, hb, rfl⟩ := List.mem_map.1 hm
      simpa using hne' b hb)
    obtain ⟨dr, hl1, hd1, prom⟩ := hplain hmk
    refine ⟨hfn, (prom _ w vs rfl sr2 va).mono fun e w' he => ?_⟩
    cases e with
    | returned u =>
      obtain ⟨hr, sr3, mv3⟩ := he
      have hsub : ∀ b, some b ∈ (calleeG G1 o.refs).loc → some b ∈ G1.loc := fun b hb => by
        obtain ⟨k, i, _, h⟩ := callee_loc hb
        exact List.mem_of_getElem? h
      have hblk : ∀ i, i < w.heap.size → some i ∉ (calleeG G1 o.refs).loc → w'.heap[i]? = w.heap[i]? := fun i hi hn => mv3.blk i hi hn (fun e he => by simp [calleeG] at he)
      have back : ∀ (a : Addr) (u : Value), w'.cell? a = some u → Stab (calleeG G1 o.refs) w' a → w'.cell? a = some u ∧ Stab G1 w' a := fun a u h s => ⟨h, callee_stab.1 s⟩
      have ge : Ge G1 w G1 w' := {
        cell := fun a u hc s => ⟨(mv3.ge.cell a u hc (callee_stab.2 s)).1, s.old mv3.size⟩
        loc := fun i o l => .inl l
        tok := fun i v b k h => ⟨v, b, k, h, Nat.le_refl v, fun _ => ⟨rfl, rfl, fun n ⟨c, t, h1, h2⟩ => ⟨c, t, (hblk b (heap_lt h1) (fun hm => sr1.dis _ (List.mem_of_getElem? h) (hsub b hm))).trans h1, h2⟩⟩⟩
        out := rfl }
      have mv2 : Mv G1 w G1 w' := ⟨ge, mv3.os, mv3.tape, mv3.output, mv3.size, fun i hi hl _ => hblk i hi (fun hm => hl (hsub i hm)), fun b hb => .inl hb, fun e he => .inl ⟨e, he, rfl⟩⟩
      refine ⟨G1, hr.conv back dr, ?_, mv1.trans mv2⟩
      have hrl : o.refs.length = σ1.length := by rw [hl1]; simp
      exact {
        len := by simp only [putBack_length]; exact sr1.len
        blk := fun i c hi hn => by
          rcases putBack_get o.refs σ1 o.σ i c nd hi with ⟨k, h1, h2⟩ | ⟨h1, h2⟩
          · obtain ⟨b, us, t, g1, g2, g3, g4⟩ := sr3.blk k c h2 hn
            have gl : G1.loc[i]? = some (some b) := by
              simp only [calleeG, List.getElem?_map, h1, Option.map_some] at g1
              cases hg : G1.loc[i]? with
              | none => rw [hg] at g1; cases g1
              | some x => rw [hg] at g1; exact g1
            refine ⟨b, us, t, gl, g2, ⟨g3.1, fun j p q => ?_⟩, g4⟩
            exact (g3.2 j p q).conv back ((hd1 c (List.mem_of_getElem? h2)).2 _ (List.getElem_mem p))
          · have hni : i ∉ o.refs := h1.resolve_right (fun e => e hrl)
            obtain ⟨b, us, t, g1, g2, g3, g4⟩ := sr1.blk i c h2 hn
            refine ⟨b, us, t, g1, (hblk b (heap_lt g2) (fun hm => ?_)).trans g2, g3.mono ge, g4⟩
            obtain ⟨k, j, hk, h⟩ := callee_loc hm
            have := sr1.nd i j b g1 h
            subst this
            exact hni (List.mem_of_getElem? hk)
        nd := sr1.nd
        tk := sr1.tk
        tnd := sr1.tnd
        dis := sr1.dis
        tlt := fun e he => Nat.lt_of_lt_of_le (sr1.tlt e he) mv3.size
        llt := fun b hb => Nat.lt_of_lt_of_le (sr1.llt b hb) mv3.size
        od := fun e he => ⟨Nat.lt_of_lt_of_le (sr1.od e he).1 mv3.size, (sr1.od e he).2⟩
        gl := fun e he => (sr1.gl e he).mono ge }
    | panicked c => exact he
    | outgrown => exact he

/-- A call that makes a place, from the caller's side. -/
theorem mkT_ok {cx : Cx} {C : Oracle} (cs : CSound cx C) {G : Gh} {w : World} {S S' : St} {f : Nat} {args : List AV} {vs : Array Value} {v : AV} (sr : SR G S w) (hv : VRs G w args vs.toList) (hmk : cx.mkf f = true) (h : mkT cx C S f args = some (v, S')) :
    (∃ fn, cx.P.funcs[f]? = some fn ∧ fn.body.isNone = false ∧ (fn.name == "runtime.NumGoroutine") = false) ∧ Calls cx.P f vs w fun e w' => match e with
      | .returned u => ∃ G', VR G' w' v u ∧ SR G' S' w' ∧ Mv G w G' w'
      | _ => False := by
  simp only [mkT, Option.bind_eq_some_iff] at h
  obtain ⟨fn, hf, o, ho, h⟩ := h
  split at h
  · rename_i hre
    obtain ⟨⟨r, σ1⟩, hc, h⟩ := Option.bind_eq_some_iff.1 h
    split at h
    · rename_i cells heq
      cases heq
      cases h
      obtain ⟨G1, sr1, mv1, _, nd1, len1, a1⟩ := hand_ok (tk := S.tk) args sr hv ho
      have hrefs : o.refs = [] := by simpa using hre
      have sr2 := callee_sr (refs := []) sr1 List.nodup_nil (by simp)
      have va : VRs (calleeG G1 []) w o.args vs.toList := by
        refine ⟨len1, fun i p q => ?_⟩
        rcases a1 i _ _ (List.getElem?_eq_getElem p) (List.getElem?_eq_getElem q) with ⟨d, h⟩ | ⟨k, b, e, hk, h⟩
        · exact h.conv (fun a u h s => ⟨h, callee_stab.2 s⟩) d
        · rw [hrefs] at hk; simp at hk
      obtain ⟨hfn, hmkp, _⟩ := cs f o.args [] _ _ hc (by simp)
      obtain ⟨hne, hdd, prom⟩ := hmkp hmk cells rfl rfl rfl
      refine ⟨hfn, (prom (calleeG G1 []) w vs rfl rfl sr2 va).mono fun e w' he => ?_⟩
      cases e with
      | returned u =>
        obtain ⟨b, rfl, hfresh, sr3, mv3⟩ := he
        have hblk : ∀ i, i < w.heap.size → w'.heap[i]? = w.heap[i]? := fun i hi => mv3.blk i hi (by simp [calleeG]) (fun e he => by simp [calleeG] at he)
        obtain ⟨b', us, t, g1, g2, g3, g4⟩ := sr3.blk 0 cells rfl hne
        simp at g1
        subst g1
        let G' : Gh := ⟨G1.loc ++ [some b], G1.tok, G1.out⟩
        have st : ∀ a, Stab ⟨[some b], [], (calleeG G1 []).out⟩ w' a → Stab G' w' a := fun a s => by
          have s1 : Stab G1 w' a := callee_stab.1 ⟨s.1, by simp [calleeG], fun e he => by simp [calleeG] at he, s.2.2.2⟩
          refine ⟨s1.1, fun hm => ?_, s1.2.2⟩
          rcases List.mem_append.1 hm with h | h
          · exact s1.2.1 h
          · exact s.2.1 h
        have ge : Ge G1 w G' w' := {
          cell := fun a u hc s => by
            refine ⟨(mv3.ge.cell a u hc (callee_stab.2 s)).1, Nat.lt_of_lt_of_le s.1 mv3.size, fun hm => ?_, s.2.2⟩
            rcases List.mem_append.1 hm with h | h
            · exact s.2.1 h
            · have := s.1; simp at h; omega
          loc := fun i o l => .inl (by simp only [G']; rw [List.getElem?_append_left (List.getElem?_eq_some_iff.1 l).1]; exact l)
          tok := fun i v b k h => ⟨v, b, k, h, Nat.le_refl v, fun _ => ⟨rfl, rfl, fun n ⟨c, t, h1, h2⟩ => ⟨c, t, (hblk b (heap_lt h1)).trans h1, h2⟩⟩⟩
          out := rfl }
        have hlt : b < w'.heap.size := heap_lt g2
        refine ⟨G', .loc (o := some b) (by simp only [G']; rw [sr1.len, List.getElem?_append_right (Nat.le_refl _)]; simp) (fun _ e => by cases e; rfl), ?_, mv1.trans ⟨ge, mv3.os, mv3.tape, mv3.output, mv3.size, fun i hi _ _ => hblk i hi, fun c hc => ?_, fun e he => .inl ⟨e, he, rfl⟩⟩⟩
        · have lk : ∀ (i c : Nat), G'.loc[i]? = some (some c) → (i < G1.loc.length ∧ G1.loc[i]? = some (some c)) ∨ (i = G1.loc.length ∧ c = b) := by
            intro i c h
            simp only [G'] at h
            rw [List.getElem?_append] at h
            split at h
            · exact .inl ⟨‹_›, h⟩
            · have := (List.getElem?_eq_some_iff.1 h).1
              have hi0 : i = G1.loc.length := by simp at this; omega
              subst hi0
              simp at h
              exact .inr ⟨rfl, h.symm⟩
          exact {
            len := by simp [G', sr1.len]
            blk := fun i c hi hn => by
              simp only [List.getElem?_append] at hi
              split at hi
              · obtain ⟨b1, vs1, t1, q1, q2, q3, q4⟩ := sr1.blk i c hi hn
                exact ⟨b1, vs1, t1, by simp only [G']; rw [List.getElem?_append_left (List.getElem?_eq_some_iff.1 q1).1]; exact q1, (hblk b1 (heap_lt q2)).trans q2, q3.mono ge, q4⟩
              · rename_i hge
                have hi0 : i = o.σ.length := by
                  have := (List.getElem?_eq_some_iff.1 hi).1
                  simp at this; omega
                subst hi0
                simp at hi
                subst hi
                exact ⟨b, us, t, by simp only [G']; rw [sr1.len, List.getElem?_append_right (Nat.le_refl _)]; simp, g2, ⟨g3.1, fun j p q => (g3.2 j p q).conv (fun a u h s => ⟨h, st a s⟩) (hdd _ (List.getElem_mem p))⟩, g4⟩
            nd := fun i j c hi hj => by
              rcases lk i c hi with ⟨p1, p2⟩ | ⟨p1, p2⟩ <;> rcases lk j c hj with ⟨q1, q2⟩ | ⟨q1, q2⟩
              · exact sr1.nd i j c p2 q2
              · have := sr1.llt c (List.mem_of_getElem? p2); omega
              · have := sr1.llt c (List.mem_of_getElem? q2); omega
              · omega
            tk := sr1.tk
            tnd := sr1.tnd
            dis := fun e he hm => by
              rcases List.mem_append.1 hm with h | h
              · exact sr1.dis e he h
              · have := sr1.tlt e he; simp at h; omega
            gl := fun e he => (sr1.gl e he).mono ge
            tlt := fun e he => Nat.lt_of_lt_of_le (sr1.tlt e he) mv3.size
            llt := fun c hm => by
              rcases List.mem_append.1 hm with h | h
              · exact Nat.lt_of_lt_of_le (sr1.llt c h) mv3.size
              · simp at h; omega
            od := fun e he => ⟨Nat.lt_of_lt_of_le (sr1.od e he).1 mv3.size, fun hm => by
              rcases List.mem_append.1 hm with h | h
              · exact (sr1.od e he).2.1 h
              · have := (sr1.od e he).1; simp at h; omega, (sr1.od e he).2.2⟩ }
        · rcases List.mem_append.1 hc with h | h
          · exact .inl h
          · simp at h; exact .inr (by omega)
      | panicked c => exact he
      | outgrown => exact he
    · cases h
  · cases h

end M
end Go.Proofs.YthclcchnodjjpaaGreatDoor
/- SOUNDNESS 9: one operation. -/
set_option linter.unusedVariables false
set_option linter.unusedSimpArgs false
namespace Go.Proofs.YthclcchnodjjpaaGreatDoor
namespace M

theorem box_rp_ok {cx : Cx} {G : Gh} {w : World} {S : St} (sr : SR G S w) {t : Nat} {v : AV} {x : Value} (hv : VR G w v x) (hc : v.cells.all AV.isCell = true) :
    ∃ u w', (Instr.box t x).run cx.P w = .ok u w' ∧ VR G w' (.rp v.cells) u ∧ Old w w' := by
  obtain ⟨h1, h2⟩ := cells_rel hv hc
  have old := Old.alloc w (.cells x.cells t)
  refine ⟨.pointer (some ⟨w.heap.size, 0, none⟩), w.alloc (.cells x.cells t), ?_, ?_, old⟩
  · simp only [Instr.box, Sem.run_bind, Result.andThen_ok, newVar, newRow, run_newObj, Sem.run_pure]
    rfl
  · have hlen : v.cells.length = x.cells.size := by have := h1.1; simpa using this
    refine .rp (fun j => x.cells.toList.getD j Go.undef) (fun j hj => ?_) (fun j hj => ?_)
    · have hlt : j < x.cells.toList.length := by simp; omega
      have hg : x.cells.toList.getD j Go.undef = x.cells.toList[j] := by simp only [List.getD, List.getElem?_eq_getElem hlt, Option.getD_some]
      rw [add_at, hg]
      refine ⟨?_, ⟨by simp, fun hm => ?_, fun e he hb => ?_, fun e he hb => ?_⟩, h2 _ (List.getElem_mem hlt)⟩
      · rw [cell_of_row _ _ _ _ _ (0, 0) (heap_alloc_new w _)]
        simp
      · have := sr.llt _ hm; simp at this
      · have := sr.tlt e he; simp only at hb; omega
      · have := (sr.od e he).1; simp only at hb; omega
    · have hlt : j < x.cells.toList.length := by simp; omega
      have hg : x.cells.toList.getD j Go.undef = x.cells.toList[j] := by simp only [List.getD, List.getElem?_eq_getElem hlt, Option.getD_some]
      rw [hg]
      exact (h1.2 j hj hlt).mono (old.ge G)

section
variable {P : Program} {o : Oper} {a : Act} {w w' : World} {u : Value} {K : Act → World → Prop} {Q : Exit → Act → World → Prop}
theorem wp_value (e : (execOp a.eval o).run P w = .ok (.value u) w') (hk : K (a.put o.dst u) w') : o.wp P a w K Q := by
  unfold Oper.wp; rw [e]; exact hk
theorem wp_skip' (e : (execOp a.eval o).run P w = .ok .skip w') (hk : K (a.put o.dst Go.undef) w') : o.wp P a w K Q := by
  unfold Oper.wp; rw [e]; exact hk
theorem wp_enter {f : FuncId} {args : Array Value} (e : (execOp a.eval o).run P w = .ok (.enter f args) w') (hk : Calls P f args w' fun e w'' => match e with
    | .returned v => K (a.put o.dst v) w''
    | _ => False) : o.wp P a w K Q := by
  unfold Oper.wp; rw [e]
  exact hk.mono fun e w'' h => by cases e <;> first | exact h | exact h.elim
theorem run_v {s : Sem Value} (e : s.run P w = .ok u w') : (do pure (.value (← s)) : Sem Next).run P w = .ok (.value u) w' := by
  simp only [Sem.run_bind, e, Result.andThen_ok, Sem.run_pure]
theorem run_u {s : Sem Unit} (e : s.run P w = .ok () w') : (do s; pure .skip : Sem Next).run P w = .ok .skip w' := by
  simp only [Sem.run_bind, e, Result.andThen_ok, Sem.run_pure]
end

theorem opt_rel {G : Gh} {w : World} {r : Regs} {a : Act} (gl : Glb G w) (h : VRs G w r a.tmps.toList) : ∀ x : Option Operand, OptRel G w (x.map (ev r)) (x.map a.eval)
  | none => trivial
  | some x => by
    simp only [Option.map_some]
    cases hx : ev r x with
    | none => trivial
    | some v => exact ev_rel gl h hx

theorem run_callFunc {P : Program} {f : Nat} {fn : Func} (hf : P.funcs[f]? = some fn) (hb : fn.body.isNone = false) (hn : (fn.name == "runtime.NumGoroutine") = false) (args : Array Value) (w : World) :
    (callFunc f args).run P w = .ok (.enter f args) w := by
  have hn' : fn.name ≠ "runtime.NumGoroutine" := by simpa using hn
  have hb' : fn.body ≠ none := fun e => by rw [e] at hb; cases hb
  simp [callFunc, go_sem, hf, hn', hb']

theorem op_wp {cx : Cx} (ok : CxOk cx) {C : Oracle} (cs : CSound cx C) {G : Gh} {w : World} {r : Regs} {S S' : St} {o : Oper} {a : Act} {v : AV} (hr : VRs G w r a.tmps.toList) (sr : SR G S w) (h : opT cx C r S o.op = some (v, S'))
    {K : Act → World → Prop} {Q : Exit → Act → World → Prop} (hK : ∀ u w' G', VR G' w' v u → SR G' S' w' → Mv G w G' w' → K (a.put o.dst u) w') : o.wp cx.P a w K Q := by
  obtain ⟨dst, op, type, pos, after, guard⟩ := o
  simp only at h hK
  cases op with
  | move x =>
    simp only [opT, Option.map_eq_some_iff] at h
    obtain ⟨v', h1, h2⟩ := h
    cases h2
    exact wp_value (by simp only [execOp, Sem.run_pure]) (hK _ w G (ev_rel sr.gl hr h1) sr (Mv.refl G w))
  | assign x =>
    simp only [opT, Option.map_eq_some_iff] at h
    obtain ⟨v', h1, h2⟩ := h
    cases h2
    exact wp_value (by simp only [execOp, Sem.run_pure]) (hK _ w G (ev_rel sr.gl hr h1) sr (Mv.refl G w))
  | pick c x y =>
    simp only [opT, Option.bind_eq_some_iff, Option.map_eq_some_iff] at h
    obtain ⟨c', h1, b, h2, x', h3, y', h4, h5⟩ := h
    cases h5
    have hc := ev_rel sr.gl hr h1
    have : c' = .bool b := by unfold asBoolT at h2; split at h2 <;> cases h2; rfl
    subst this
    generalize hcc : a.eval c = cc at hc
    cases hc
    refine wp_value (u := if b then a.eval x else a.eval y) (w' := w) (by simp [execOp, hcc, asBool]) (hK _ w G ?_ sr (Mv.refl G w))
    cases b
    · exact ev_rel sr.gl hr h4
    · exact ev_rel sr.gl hr h3
  | alloc t =>
    simp only [opT, Option.bind_eq_some_iff] at h
    obtain ⟨ti, ht, h⟩ := h
    split at h
    · cases h
      obtain ⟨u, w', G', h1, h2, h3, h4⟩ := alloc_ok ok sr ht
      exact wp_value (by simp only [execOp]; exact run_v h1) (hK u w' G' h2 h3 h4)
    · cases h
  | box t x =>
    simp only [opT, Option.bind_eq_some_iff] at h
    obtain ⟨x', hx, h⟩ := h
    split at h
    · rename_i hc
      split at h
      · cases h
        obtain ⟨u, w', h1, h2, h3⟩ := box_rp_ok (cx := cx) (t := t) sr (ev_rel sr.gl hr hx) hc
        exact wp_value (by simp only [execOp]; exact run_v h1) (hK u w' G h2 (h3.sr sr) (h3.mv G))
      · cases h
        obtain ⟨u, w', G', h1, h2, h3, h4⟩ := box_ok (cx := cx) (t := t) sr (ev_rel sr.gl hr hx) hc
        exact wp_value (by simp only [execOp]; exact run_v h1) (hK u w' G' h2 h3 h4)
    · cases h
  | build t ps =>
    simp only [opT, Option.bind_eq_some_iff, Option.map_eq_some_iff] at h
    obtain ⟨ps', hp, v', h1, h2⟩ := h
    cases h2
    obtain ⟨e1, e2⟩ := evp_rel sr.gl hr hp
    obtain ⟨u, h3, h4⟩ := buildT_ok ok (qs := ps.toList.map fun x => (x.1, a.eval x.2)) (by rw [e1, List.map_map]; rfl) (by rw [List.map_map]; rw [List.map_map] at e2; exact e2) h1
    have e3 : (ps.toList.map fun x => (x.1, a.eval x.2)).toArray = ps.map fun x => (x.1, a.eval x.2) := by rw [← Array.toList_inj]; simp
    rw [e3] at h3
    exact wp_value (by simp only [execOp]; exact run_v h3) (hK u w G h4 sr (Mv.refl G w))
  | buildSlice t n ps =>
    simp only [opT, Option.bind_eq_some_iff, Option.map_eq_some_iff] at h
    obtain ⟨ps', hp, v', h1, h2⟩ := h
    cases h2
    obtain ⟨e1, e2⟩ := evp_rel sr.gl hr hp
    obtain ⟨u, w', h3, h4, h5⟩ := buildSliceT_ok ok sr (qs := ps.toList.map fun x => (x.1, a.eval x.2)) (by rw [e1, List.map_map]; rfl) (by rw [List.map_map]; rw [List.map_map] at e2; exact e2) h1
    have e3 : (ps.toList.map fun x => (x.1, a.eval x.2)).toArray = ps.map fun x => (x.1, a.eval x.2) := by rw [← Array.toList_inj]; simp
    rw [e3] at h3
    exact wp_value (by simp only [execOp]; exact run_v h3) (hK u w' G h4 (h5.sr sr) (h5.mv G))
  | load t x =>
    simp only [opT, Option.bind_eq_some_iff, Option.map_eq_some_iff] at h
    obtain ⟨x', hx, v', h1, h2⟩ := h
    cases h2
    obtain ⟨u, h3, h4⟩ := loadT_ok ok sr (ev_rel sr.gl hr hx) h1
    exact wp_value (by simp only [execOp]; exact run_v h3) (hK u w G h4 sr (Mv.refl G w))
  | store t x y =>
    simp only [opT, Option.bind_eq_some_iff, Option.map_eq_some_iff] at h
    obtain ⟨x', hx, y', hy, S1, h1, h2⟩ := h
    cases h2
    obtain ⟨w', h3, h4, h5⟩ := storeT_ok ok sr (ev_rel sr.gl hr hx) (ev_rel sr.gl hr hy) h1
    exact wp_skip' (by simp only [execOp]; exact run_u h3) (hK _ w' G (VR.noval G w') h4 h5)
  | nilCheck x =>
    simp only [opT, Option.bind_eq_some_iff] at h
    obtain ⟨x', hx, h⟩ := h
    have hv := ev_rel sr.gl hr hx
    generalize hxx : a.eval x = xx at hv
    have go : v = x' ∧ S' = S ∧ (execOp a.eval ⟨dst, .nilCheck x, type, pos, after, guard⟩).run cx.P w = .ok (.value xx) w := by
      split at h
      · cases h; cases hv; exact ⟨rfl, rfl, by simp [execOp, hxx]⟩
      · cases h; cases hv; exact ⟨rfl, rfl, by simp [execOp, hxx]⟩
      · cases h; cases hv; exact ⟨rfl, rfl, by simp [execOp, hxx]⟩
      · cases h; cases hv; exact ⟨rfl, rfl, by simp [execOp, hxx]⟩
      · cases h
    obtain ⟨rfl, rfl, e⟩ := go
    exact wp_value e (hK xx w G hv sr (Mv.refl G w))
  | binOp op t x y yt =>
    simp only [opT, Option.bind_eq_some_iff, Option.map_eq_some_iff] at h
    obtain ⟨x', hx, y', hy, v', h1, h2⟩ := h
    cases h2
    obtain ⟨u, h3, h4⟩ := binT_ok ok (ev_rel sr.gl hr hx) (ev_rel sr.gl hr hy) h1 x y
    exact wp_value (by simp only [execOp]; exact run_v h3) (hK u w G h4 sr (Mv.refl G w))
  | unOp op t x =>
    cases op with
    | not =>
      simp only [opT, Option.bind_eq_some_iff, Option.map_eq_some_iff] at h
      obtain ⟨x', hx, b, h1, h2⟩ := h
      cases h2
      have : x' = .bool b := by unfold asBoolT at h1; split at h1 <;> cases h1; rfl
      subst this
      have hv := ev_rel sr.gl hr hx
      generalize hxx : a.eval x = xx at hv
      cases hv
      exact wp_value (u := .bool !b) (w' := w) (by simp [execOp, hxx, Op.unary]) (hK _ w G .bool sr (Mv.refl G w))
    | _ => simp only [opT] at h; cases h
  | makeInterface t x =>
    simp only [opT, Option.bind_eq_some_iff] at h
    obtain ⟨x', hx, h⟩ := h
    split at h
    · rename_i hi
      cases h
      obtain ⟨d, hd, hnd⟩ := isIface_false ok hi
      have h3 : (Instr.makeInterface t (a.eval x)).run cx.P w = .ok (.iface t (a.eval x)) w := by
        simp only [Instr.makeInterface, Sem.run_bind, run_underlying hd, Result.andThen_ok]
        cases d <;> first | rfl | (simp at hnd)
      exact wp_value (by simp only [execOp]; exact run_v h3) (hK _ w G (.iface (ev_rel sr.gl hr hx)) sr (Mv.refl G w))
    · cases h
  | makeFunc fn fs cs' =>
    cases fn with
    | func f =>
      simp only [opT] at h
      split at h
      · rename_i hz
        obtain ⟨vs, h1, h2⟩ := Option.map_eq_some_iff.1 h
        cases h2
        have hvs := evs_rel sr.gl hr h1
        have hfs : fs = #[] := Array.eq_empty_of_size_eq_zero hz
        subst hfs
        refine wp_value (u := .func (.func f) #[] (cs'.map a.eval)) (w' := w) (by simp [execOp, Instr.makeFunc]) (hK _ w G ?_ sr (Mv.refl G w))
        have := VR.fn (f := f) hvs.1 hvs.2
        have e : (cs'.toList.map a.eval).toArray = cs'.map a.eval := by rw [← Array.toList_inj]; simp
        rwa [e] at this
      · cases h
    | _ => simp only [opT] at h; cases h
  | makeSlice t l c =>
    simp only [opT, Option.bind_eq_some_iff] at h
    obtain ⟨l', hl, c', hc, h⟩ := h
    obtain ⟨u, w', G', h1, h2, h3, h4⟩ := makeSliceT_ok ok sr (ev_rel sr.gl hr hl) (ev_rel sr.gl hr hc) h
    exact wp_value (by simp only [execOp]; exact run_v h1) (hK u w' G' h2 h3 h4)
  | slice t x lo hi mx =>
    simp only [opT] at h
    split at h
    · cases h
    · rename_i hm
      simp only [Option.bind_eq_some_iff, Option.map_eq_some_iff] at h
      obtain ⟨x', hx, v', h1, h2⟩ := h
      cases h2
      obtain ⟨u, h3, h4⟩ := sliceT_ok ok (ev_rel sr.gl hr hx) (opt_rel sr.gl hr lo) (opt_rel sr.gl hr hi) (opt_rel sr.gl hr mx) h1 (fun e => by
        cases hi <;> cases mx <;> simp_all)
      exact wp_value (by simp only [execOp]; exact run_v h3) (hK u w G h4 sr (Mv.refl G w))
  | fieldAddr t x f =>
    simp only [opT, Option.bind_eq_some_iff, Option.map_eq_some_iff] at h
    obtain ⟨x', hx, v', h1, h2⟩ := h
    cases h2
    obtain ⟨u, h3, h4⟩ := fieldAddrT_ok ok (ev_rel sr.gl hr hx) h1
    exact wp_value (by simp only [execOp]; exact run_v h3) (hK u w G h4 sr (Mv.refl G w))
  | field t x f =>
    simp only [opT, Option.bind_eq_some_iff, Option.map_eq_some_iff] at h
    obtain ⟨x', hx, v', h1, h2⟩ := h
    cases h2
    obtain ⟨u, h3, h4⟩ := fieldT_ok ok (ev_rel sr.gl hr hx) h1
    exact wp_value (by simp only [execOp]; exact run_v h3) (hK u w G h4 sr (Mv.refl G w))
  | indexAddr t x i =>
    simp only [opT, Option.bind_eq_some_iff, Option.map_eq_some_iff] at h
    obtain ⟨x', hx, i', hi, v', h1, h2⟩ := h
    cases h2
    obtain ⟨u, h3, h4⟩ := indexAddrT_ok ok (ev_rel sr.gl hr hx) (ev_rel sr.gl hr hi) h1
    exact wp_value (by simp only [execOp]; exact run_v h3) (hK u w G h4 sr (Mv.refl G w))
  | typeAssert x xt t b =>
    simp only [opT, Option.bind_eq_some_iff, Option.map_eq_some_iff] at h
    obtain ⟨x', hx, v', h1, h2⟩ := h
    cases h2
    obtain ⟨u, h3, h4⟩ := typeAssertT_ok ok (ev_rel sr.gl hr hx) h1
    exact wp_value (by simp only [execOp]; exact run_v h3) (hK u w G h4 sr (Mv.refl G w))
  | extract x i =>
    simp only [opT, Option.bind_eq_some_iff] at h
    obtain ⟨x', hx, h⟩ := h
    split at h
    · rename_i vs
      obtain ⟨v', h1, h2⟩ := Option.map_eq_some_iff.1 h
      cases h2
      have hv := ev_rel sr.gl hr hx
      generalize hxx : a.eval x = xx at hv
      cases hv with
      | @tup _ us hl hh =>
        obtain ⟨u, h3, h4⟩ := VRs.get ⟨hl, hh⟩ h1
        exact wp_value (u := u) (w' := w) (by simp [execOp, hxx, Instr.extract, h3]) (hK u w G h4 sr (Mv.refl G w))
    · cases h
  | call c =>
    simp only [opT, Option.bind_eq_some_iff] at h
    obtain ⟨args, ha, h⟩ := h
    have hargs := evs_rel sr.gl hr ha
    have ea : (c.args.map a.eval).toList = c.args.toList.map a.eval := by simp
    split at h
    · rename_i b hb
      rw [← ea] at hargs
      obtain ⟨u, w', G', h1, h2, h3, h4⟩ := builtinT_ok ok sr (ty := type) (consts := c.args.map fun | .const _ => true | _ => false) hargs h
      refine wp_value ?_ (hK u w' G' h2 h3 h4)
      simp only [execOp, resolve, hb, Sem.run_bind, Sem.run_pure, Result.andThen_ok, invoke]
      exact h1
    · rename_i x hb
      split at h
      · rename_i f hf
        have hx : x = .func f ∧ cx.mkf f = true := by
          unfold mkOp at hf
          split at hf
          · split at hf
            · cases hf; exact ⟨rfl, ‹_›⟩
            · cases hf
          · cases hf
        obtain ⟨rfl, hmk⟩ := hx
        obtain ⟨⟨fn, hfn, hbn, hnm⟩, hcalls⟩ := mkT_ok cs sr (by rw [← ea] at hargs; exact hargs) hmk h
        refine wp_enter (w' := w) (f := f) (args := c.args.map a.eval) ?_ (hcalls.mono fun e w' he => ?_)
        · simp only [execOp, resolve, hb, Act.eval, Deferred.ofValue, Sem.run_bind, Sem.run_pure, Result.andThen_ok, invoke]
          simpa using run_callFunc hfn hbn hnm (c.args.map a.eval) w
        · cases e with
          | returned u =>
            obtain ⟨G', h1, h2, h3⟩ := he
            exact hK u w' G' h1 h2 h3
          | panicked c => exact he
          | outgrown => exact he
      · rename_i hf0
        obtain ⟨f, hf, h⟩ := Option.bind_eq_some_iff.1 h
        have hv := ev_rel sr.gl hr hf
        unfold applyT at h
        split at h
        · rename_i fi cap
          split at h
          · cases h
          rename_i hmk
          generalize hxx : a.eval x = xx at hv
          cases hv with
          | @fn _ _ us hl hh =>
            have hall : VRs G w (args ++ cap) (c.args.map a.eval ++ us.toArray).toList := by
              have := hargs.append ⟨hl, hh⟩
              simpa using this
            obtain ⟨⟨fn, hfn, hbn, hnm⟩, hcalls⟩ := callT_ok cs sr hall (by simpa using hmk) h
            refine wp_enter (w' := w) (f := fi) (args := c.args.map a.eval ++ us.toArray) ?_ (hcalls.mono fun e w' he => ?_)
            · simp only [execOp, resolve, hb, hxx, Deferred.ofValue, Sem.run_bind, Sem.run_pure, Result.andThen_ok, invoke]
              simpa using run_callFunc hfn hbn hnm (c.args.map a.eval ++ us.toArray) w
            · cases e with
              | returned u =>
                obtain ⟨G', h1, h2, h3⟩ := he
                exact hK u w' G' h1 h2 h3
              | panicked c => exact he
              | outgrown => exact he
        · cases h
    · cases h
  | _ => simp only [opT] at h; cases h

end M
end Go.Proofs.YthclcchnodjjpaaGreatDoor
/- SOUNDNESS 10: a step of a region; regions in order; what an operation looks at. -/
set_option linter.unusedVariables false
set_option linter.unusedSimpArgs false
namespace Go.Proofs.YthclcchnodjjpaaGreatDoor
namespace M

theorem wantedT_ok {G : Gh} {w : World} {ops : Array Oper} {r : Regs} {a : Act} {o : Oper} {b : Bool} (hr : VRs G w r a.tmps.toList) (h : wantedT ops r o = some b) : Region.wanted o (yielded ops a.tmps) = b := by
  unfold wantedT at h
  unfold Region.wanted
  cases hg : o.guard with
  | none => rw [hg] at h; simpa using h
  | some jw =>
    obtain ⟨j, want⟩ := jw
    rw [hg] at h
    simp only at h ⊢
    unfold yielded
    cases hd : (ops[j]?).bind (·.dst) with
    | none => rw [hd] at h; simp only [Option.some.injEq] at h; subst h; simp
    | some d =>
      rw [hd] at h
      simp only [Option.bind_some] at h ⊢
      cases hrd : r[d]? with
      | none =>
        rw [hrd] at h
        simp only [Option.some.injEq] at h; subst h
        have : a.tmps[d]? = none := by
          rw [← Array.getElem?_toList]
          rw [List.getElem?_eq_none_iff] at hrd ⊢
          rw [← hr.1]; exact hrd
        rw [this]; simp
      | some v =>
        obtain ⟨u, hu, hv⟩ := hr.get hrd
        rw [Array.getElem?_toList] at hu
        rw [hrd] at h
        rw [hu]
        cases hv <;> simp only [Option.some.injEq] at h <;> (try (subst h; simp; done)) <;> (try (cases h; done))

theorem putT_rel {G : Gh} {w : World} {r : Regs} {a : Act} {d : Option Tmp} {v : AV} {u : Value} (hr : VRs G w r a.tmps.toList) (hv : VR G w v u) : VRs G w (putT r d v) (a.put d u).tmps.toList := by
  cases d with
  | none => exact hr
  | some d =>
    simp only [putT, Act.put, Array.toList_setIfInBounds]
    exact hr.set hv d

theorem put_defers' (a : Act) (d : Option Tmp) (u : Value) : (a.put d u).defers = a.defers := by cases d <;> rfl

theorem stepT_wp {cx : Cx} (ok : CxOk cx) {C : Oracle} (cs : CSound cx C) {G : Gh} {w : World} {ops : Array Oper} {i : Nat} {o : Oper} {r r' : Regs} {S S' : St} {a : Act} (ho : ops[i]? = some o) (hr : VRs G w r a.tmps.toList) (sr : SR G S w)
    (h : stepT cx C ops o r S = some (r', S')) {K : Act → World → Prop} {Q : Exit → Act → World → Prop} (hK : ∀ a' w' G', VRs G' w' r' a'.tmps.toList → SR G' S' w' → Mv G w G' w' → a'.defers = a.defers → K a' w') :
    wpOp cx.P ops Q i K a w := by
  simp only [stepT, Option.bind_eq_some_iff] at h
  obtain ⟨b, hb, h⟩ := h
  unfold wpOp
  simp only [ho, wantedT_ok hr hb]
  cases b with
  | false =>
    simp only [Bool.false_eq_true, if_false, Option.some.injEq, Prod.mk.injEq] at h ⊢
    obtain ⟨rfl, rfl⟩ := h
    exact hK _ w G (putT_rel hr (VR.noval G w)) sr (Mv.refl G w) (put_defers' a _ _)
  | true =>
    simp only [if_true, Option.map_eq_some_iff, Prod.mk.injEq] at h ⊢
    obtain ⟨⟨v, S1⟩, h1, rfl, rfl⟩ := h
    exact .inl (op_wp ok cs hr sr h1 fun u w' G' h2 h3 h4 => hK _ w' G' (putT_rel (hr.mono h4.ge) h2) h3 h4 (put_defers' a _ _))

/-- The operations of some indices. -/
def pickOps (ops : Array Oper) (l : List Nat) : List Oper := l.filterMap (ops[·]?)

theorem pick_range (ops : Array Oper) : pickOps ops (List.range ops.size) = ops.toList := by
  unfold pickOps
  apply List.ext_getElem?
  intro i
  have : ∀ n, n ≤ ops.size → (List.range n).filterMap (ops[·]?) = ops.toList.take n := by
    intro n
    induction n with
    | zero => simp
    | succ n ih =>
      intro hn
      rw [List.range_succ, List.filterMap_append, ih (by omega)]
      have hlt : n < ops.size := by omega
      simp [List.take_add_one, hlt]
  rw [this ops.size (Nat.le_refl _), List.take_of_length_le (by simp)]

theorem opsT_wp {cx : Cx} (ok : CxOk cx) {C : Oracle} (cs : CSound cx C) {ops : Array Oper} {Q : Exit → Act → World → Prop} : ∀ (l : List Nat) {G : Gh} {w : World} {r r' : Regs} {S S' : St} {a : Act}, VRs G w r a.tmps.toList → SR G S w →
    opsT cx C ops (pickOps ops l) r S = some (r', S') → (∀ a' w' G', VRs G' w' r' a'.tmps.toList → SR G' S' w' → Mv G w G' w' → a'.defers = a.defers → Q .normal a' w') → wpOps cx.P ops Q l a w
  | [], G, w, r, r', S, S', a, hr, sr, h, hQ => by
    simp only [pickOps, List.filterMap_nil, opsT, Option.some.injEq, Prod.mk.injEq] at h
    obtain ⟨rfl, rfl⟩ := h
    exact hQ a w G hr sr (Mv.refl G w) rfl
  | i :: l, G, w, r, r', S, S', a, hr, sr, h, hQ => by
    rw [wpOps_cons]
    cases ho : ops[i]? with
    | none =>
      unfold wpOp
      simp only [ho]
      refine opsT_wp ok cs l hr sr ?_ hQ
      simpa only [pickOps, List.filterMap_cons, ho] using h
    | some o =>
      simp only [pickOps, List.filterMap_cons, ho, opsT, Option.bind_eq_some_iff] at h
      obtain ⟨⟨r1, S1⟩, h1, h2⟩ := h
      exact stepT_wp ok cs ho hr sr h1 fun a' w' G' q1 q2 q3 q4 => opsT_wp ok cs l q1 q2 h2 fun a'' w'' G'' p1 p2 p3 p4 => hQ a'' w'' G'' p1 p2 (q3.trans p3) (p4.trans q4)

theorem region_wp {cx : Cx} (ok : CxOk cx) {C : Oracle} (cs : CSound cx C) {id : Nat} {ops : Array Oper} {Q : Exit → Act → World → Prop} {G : Gh} {w : World} {r r' : Regs} {S S' : St} {a : Act} (hr : VRs G w r a.tmps.toList) (sr : SR G S w)
    (h : opsT cx C ops ops.toList r S = some (r', S')) (hQ : ∀ a' w' G', VRs G' w' r' a'.tmps.toList → SR G' S' w' → Mv G w G' w' → a'.defers = a.defers → Q .normal a' w') : (Code.region id ops false).wp cx.P Q a w :=
  wp_region (opsT_wp ok cs _ hr sr (by rw [pick_range]; exact h) hQ)

/-! ### What an operation looks at -/
theorem evs_congr {r r' : Regs} : ∀ {xs : List Operand}, (∀ x ∈ xs, ev r x = ev r' x) → evs r xs = evs r' xs
  | [], _ => rfl
  | x :: xs, h => by simp only [evs, h x (by simp), evs_congr (xs := xs) fun y hy => h y (by simp [hy])]

theorem evp_congr {r r' : Regs} : ∀ {xs : List (Nat × Operand)}, (∀ x ∈ xs.map (·.2), ev r x = ev r' x) → evp r xs = evp r' xs
  | [], _ => rfl
  | x :: xs, h => by
    simp only [evp, h x.2 (by simp), evp_congr (xs := xs) fun y hy => h y (by simp only [List.map_cons, List.mem_cons]; exact .inr hy)]

theorem opT_congr {cx : Cx} {C : Oracle} {r r' : Regs} {S : St} (op : Op) (h : ∀ x ∈ op.operands, ev r x = ev r' x) : opT cx C r S op = opT cx C r' S op := by
  cases op
  case build t ps => simp only [opT]; rw [evp_congr fun x hx => h x (by simpa [Op.operands] using hx)]
  case buildSlice t n ps => simp only [opT]; rw [evp_congr fun x hx => h x (by simpa [Op.operands] using hx)]
  case makeFunc fn fs cs =>
    cases fn with
    | func f => simp only [opT]; rw [evs_congr (r := r) (r' := r') (xs := cs.toList) fun x hx => h x (by simp only [Op.operands, Array.mem_append]; exact .inr (by simpa using hx))]
    | _ => rfl
  case unOp o t x => cases o <;> simp only [opT] <;> rw [h x (by simp [Op.operands])]
  case slice t x lo hi mx =>
    simp only [opT]
    rw [h x (by simp [Op.operands])]
    have e : ∀ y : Option Operand, (∀ z ∈ y, z ∈ (Op.slice t x lo hi mx).operands) → y.map (ev r) = y.map (ev r') := fun y hy => by
      cases y with
      | none => rfl
      | some z => simp only [Option.map_some]; rw [h z (hy z rfl)]
    rw [e lo fun z hz => by simp [Op.operands, Option.mem_def.1 hz], e hi fun z hz => by simp [Op.operands, Option.mem_def.1 hz], e mx fun z hz => by simp [Op.operands, Option.mem_def.1 hz]]
  case call c =>
    simp only [opT]
    rw [evs_congr (r := r) (r' := r') (xs := c.args.toList) fun x hx => h x (by simp only [Op.operands, Call.operands, Array.mem_append]; exact .inr (by simpa using hx))]
    cases hc : c.callee with
    | value f => simp only [hc]; rw [h f (by simp [Op.operands, Call.operands, hc])]
    | _ => simp only [hc]
  all_goals first
    | rfl
    | (simp only [opT]; simp only [Op.operands] at h; simp_all; done)
    | skip

theorem foot_congr {r r' : Regs} (o : Oper) (h : ∀ x ∈ o.op.operands, ev r x = ev r' x) (hd : ∀ d, o.dst = some d → r.getD d (.tup []) = r'.getD d (.tup [])) : foot r o = foot r' o := by
  obtain ⟨dst, op, type, pos, after, guard⟩ := o
  simp only at h hd
  have e : ∀ (y : Option Operand), (∀ z ∈ y, ev r z = ev r' z) → y.map (ev r) = y.map (ev r') := fun y hy => by
    cases y with
    | none => rfl
    | some z => simp only [Option.map_some]; rw [hy z rfl]
  have hdd : (dst.map fun d => (r.getD d (.tup [])).made) = dst.map fun d => (r'.getD d (.tup [])).made := by
    cases dst with
    | none => rfl
    | some d => simp only [Option.map_some]; rw [hd d rfl]
  cases op <;> simp only [foot]
  case load t a => rw [h a (by simp [Op.operands])]
  case store t a x => rw [h a (by simp [Op.operands])]
  case alloc t => rw [hdd]
  case box t x => rw [hdd]
  case makeSlice t l c => rw [hdd]
  case call c =>
    rw [evs_congr (r := r) (r' := r') (xs := c.args.toList) fun x hx => h x (by simp only [Op.operands, Call.operands, Array.mem_append]; exact .inr (by simpa using hx))]
    cases hc : c.callee with
    | value f => simp only [hc]; rw [h f (by simp [Op.operands, Call.operands, hc])]
    | _ => simp only [hc]

end M
end Go.Proofs.YthclcchnodjjpaaGreatDoor
