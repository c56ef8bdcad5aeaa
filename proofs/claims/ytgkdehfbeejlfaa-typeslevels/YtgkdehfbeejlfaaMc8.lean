/- SOUNDNESS 7: calls: what is handed over, and what comes back. -/
import Derived.Test.YtgkdehfbeejlfaaMc7
set_option linter.unusedVariables false
set_option linter.unusedSimpArgs false
set_option linter.unusedSectionVars false
namespace Go.Proofs.Ytgkdehfbeejlfaa
namespace M

theorem mapLocs_eq (g : Nat → Nat → AV) : ∀ l : List AV, mapLocs g l = l.map (mapLoc g)
  | [] => rfl
  | x :: l => by simp only [mapLocs, List.map_cons, mapLocs_eq g l]

theorem mapLocss_eq (g : Nat → Nat → AV) : ∀ l : List (List AV), mapLocss g l = l.map (mapLocs g)
  | [] => rfl
  | x :: l => by simp only [mapLocss, List.map_cons, mapLocss_eq g l]

section
variable (g g' : Nat → Nat → AV) (hg : ∀ b o, mapLoc g' (g b o) = g b o)
  include hg
mutual
theorem mapLoc_fix : ∀ v : AV, mapLoc g' (mapLoc g v) = mapLoc g v
  | .undef => rfl
  | .bool _ => rfl
  | .int _ _ => rfl
  | .agg cs => by simp only [mapLoc, mapLocs_fix cs]
  | .tup cs => by simp only [mapLoc, mapLocs_fix cs]
  | .sl es o => by simp only [mapLoc, mapLocss_fix es]
  | .row _ _ => rfl
  | .loc b off => hg b off
  | .rp cs => by simp only [mapLoc, mapLocs_fix cs]
  | .nilp => rfl
  | .fn f cs => by simp only [mapLoc, mapLocs_fix cs]
  | .nilf => rfl
  | .iface t v => by simp only [mapLoc, mapLoc_fix v]
  | .nili => rfl
theorem mapLocs_fix : ∀ l : List AV, mapLocs g' (mapLocs g l) = mapLocs g l
  | [] => rfl
  | v :: l => by simp only [mapLocs, mapLoc_fix v, mapLocs_fix l]
theorem mapLocss_fix : ∀ l : List (List AV), mapLocss g' (mapLocss g l) = mapLocss g l
  | [] => rfl
  | v :: l => by simp only [mapLocss, mapLocs_fix v, mapLocss_fix l]
end
end

theorem dd_dd (v : AV) : dd (dd v) = dd v := mapLoc_fix _ _ (fun _ _ => rfl) v
theorem dd_rp (cs : List AV) : dd (.rp (cs.map dd)) = .rp (cs.map dd) := by
  unfold dd
  simp only [mapLoc, mapLocs_eq, List.map_map]
  congr 1
  exact List.map_congr_left fun v _ => dd_dd v

theorem dd_fz (σ : List (List AV)) (n : Nat) : ∀ (k : Nat) (v : AV), dd (fz σ n k v) = fz σ n k v
  | 0, v => dd_dd v
  | k + 1, v => by
    refine mapLoc_fix _ _ (fun b off => ?_) v
    by_cases h : b < n
    · simp only [if_pos h, mapLoc]
    · simp only [if_neg h]
      split
      · simp only [mapLoc, mapLocs_eq, List.map_map]
        congr 1
        exact List.map_congr_left fun v _ => dd_fz σ n k v
      · rfl

theorem VR.conv {G G' : Gh} {w w' : World} (hc : ∀ (a : Addr) (u : Value), w.cell? a = some u → Stab G w a → w'.cell? a = some u ∧ Stab G' w' a) {a : AV} {v : Value} (h : VR G w a v) (hd : dd a = a) : VR G' w' a v := by
  have := VR.weaken hc (fun _ _ => .undef) h (fun _ _ _ _ => .undef)
  rwa [show mapLoc (fun _ _ => AV.undef) a = a from hd] at this

theorem VR.dd {G G' : Gh} {w w' : World} (hc : ∀ (a : Addr) (u : Value), w.cell? a = some u → Stab G w a → w'.cell? a = some u ∧ Stab G' w' a) {a : AV} {v : Value} (h : VR G w a v) : VR G' w' (dd a) v :=
  VR.weaken hc (fun _ _ => .undef) h (fun _ _ _ _ => .undef)

theorem VRs.dd {G G' : Gh} {w w' : World} (hc : ∀ (a : Addr) (u : Value), w.cell? a = some u → Stab G w a → w'.cell? a = some u ∧ Stab G' w' a) {cs : List AV} {vs : List Value} (h : VRs G w cs vs) : VRs G' w' (cs.map dd) vs :=
  ⟨by simp [h.1], fun i a b => by
    simp only [List.getElem_map]
    exact (h.2 i (by simpa using a) b).dd hc⟩

theorem same_cells {G : Gh} {w : World} : ∀ (a : Addr) (u : Value), w.cell? a = some u → Stab G w a → w.cell? a = some u ∧ Stab G w a := fun _ _ h s => ⟨h, s⟩

/-- A place of the store is given away. -/
theorem give_ok {G : Gh} {w : World} {σ σ' : List (List AV)} {tk : List Nat} {v v' : AV} {x : Value} (sr : SR G ⟨σ, tk⟩ w) (hv : VR G w v x) (h : give σ v = some (v', σ')) :
    ∃ G', SR G' ⟨σ', tk⟩ w ∧ Mv G w G' w ∧ M.dd v' = v' ∧ VR G' w v' x := by
  unfold give at h
  split at h
  · rename_i b off
    obtain ⟨cs, hcs, h⟩ := Option.bind_eq_some_iff.1 h
    split at h
    · cases h
    · rename_i hne
      cases h
      have hne : cs ≠ [] := fun e => hne (by rw [e]; rfl)
      obtain ⟨blk, vs, t, g1, g2, g3, g4⟩ := sr.blk b cs hcs hne
      cases hv with
      | @loc _ _ a o hl hvv =>
        rw [g1] at hl
        cases hl
        have ha := hvv blk rfl
        subst ha
        let G' : Gh := ⟨G.loc.set b none, G.tok, G.out⟩
        have msub : ∀ c, some c ∈ G'.loc → some c ∈ G.loc := fun c hm => by
          rcases List.mem_or_eq_of_mem_set hm with h | h
          · exact h
          · cases h
        have gl : ∀ (i c : Nat), G'.loc[i]? = some (some c) → i ≠ b ∧ G.loc[i]? = some (some c) := fun i c h => by
          simp only [G', List.getElem?_set] at h
          split at h
          · split at h <;> cases h
          · exact ⟨fun e => by subst e; contradiction, h⟩
        have nm : some blk ∉ G'.loc := fun hm => by
          obtain ⟨j, hj⟩ := List.getElem?_of_mem hm
          obtain ⟨h1, h2⟩ := gl j blk hj
          exact h1 (sr.nd j b blk h2 g1)
        have ge : Ge G w G' w := {
          cell := fun a u hc s => ⟨hc, s.1, fun hm => s.2.1 (msub _ hm), s.2.2⟩
          loc := fun i o l => by
            by_cases hib : b = i
            · subst hib
              right
              simp only [G', List.getElem?_set_self (List.getElem?_eq_some_iff.1 g1).1]
            · left; simp only [G', List.getElem?_set_ne hib]; exact l
          tok := fun i v b k h => ⟨v, b, k, h, Nat.le_refl v, fun _ => ⟨rfl, rfl, fun _ h => h⟩⟩
          out := rfl }
        refine ⟨G', ⟨by simp [G', sr.len], fun i c hi hn => ?_, fun i j c hi hj => sr.nd i j c (gl i c hi).2 (gl j c hj).2, sr.tk, sr.tnd, fun e he hm => sr.dis e he (msub _ hm), sr.tlt, fun c hm => sr.llt c (msub c hm),
          fun e he => ⟨(sr.od e he).1, fun hm => (sr.od e he).2.1 (msub _ hm), (sr.od e he).2.2⟩⟩,
          ⟨ge, rfl, rfl, rfl, Nat.le_refl _, fun _ _ _ _ => rfl, fun c hm => .inl (msub c hm), fun e he => .inl ⟨e, he, rfl⟩⟩, dd_rp _, ?_⟩
        · simp only [List.getElem?_set] at hi
          split at hi
          · split at hi
            · cases hi; exact absurd rfl hn
            · cases hi
          · rename_i hib
            obtain ⟨b', us, ty, q1, q2, q3, q4⟩ := sr.blk i c hi hn
            exact ⟨b', us, ty, by simp only [G', List.getElem?_set_ne hib]; exact q1, q2, q3.mono ge, q4⟩
        · have hlen : cs.length = vs.size := by have := g3.1; simpa using this
          refine .rp (fun j => vs.toList.getD (off + j) Go.undef) (fun j hj => ?_) (fun j hj => ?_)
          · simp only [List.length_map, List.length_drop] at hj
            have hlt : off + j < vs.toList.length := by simp; omega
            have hg : vs.toList.getD (off + j) Go.undef = vs.toList[off + j] := by simp only [List.getD, List.getElem?_eq_getElem hlt, Option.getD_some]
            have hadd : (⟨blk, off, none⟩ : Addr).add j = ⟨blk, off + j, none⟩ := by unfold Addr.add; split <;> simp_all
            rw [hadd, hg]
            refine ⟨?_, ⟨heap_lt g2, nm, fun e he hb => absurd (by simpa [hb] using List.mem_of_getElem? g1) (sr.dis e he), fun e he hb => absurd (by simpa [hb] using List.mem_of_getElem? g1) (sr.od e he).2.1⟩, g4 _ (List.getElem_mem hlt)⟩
            rw [cell_of_row _ _ _ vs t (0, 0) g2]
            simp
          · simp only [List.length_map, List.length_drop] at hj
            have hlt : off + j < vs.toList.length := by simp; omega
            have hg : vs.toList.getD (off + j) Go.undef = vs.toList[off + j] := by simp only [List.getD, List.getElem?_eq_getElem hlt, Option.getD_some]
            simp only [hg, List.getElem_map, List.getElem_drop]
            exact (g3.2 (off + j) (by omega) hlt).dd ge.cell
  · cases h
    exact ⟨G, sr, Mv.refl G w, dd_dd _, hv.dd same_cells⟩

theorem gives_ok {w : World} {tk : List Nat} : ∀ (cs : List AV) {G : Gh} {σ σ' : List (List AV)} {cs' : List AV} {xs : List Value}, SR G ⟨σ, tk⟩ w → VRs G w cs xs → gives σ cs = some (cs', σ') →
    ∃ G', SR G' ⟨σ', tk⟩ w ∧ Mv G w G' w ∧ (∀ c ∈ cs', dd c = c) ∧ VRs G' w cs' xs
  | [], G, σ, σ', cs', xs, sr, hv, h => by
    cases h
    have : xs = [] := List.eq_nil_of_length_eq_zero (by have := hv.1; simpa using this.symm)
    subst this
    exact ⟨G, sr, Mv.refl G w, by simp, VRs.nil G w⟩
  | v :: cs, G, σ, σ', cs', xs, sr, hv, h => by
    simp only [gives, Option.bind_eq_some_iff, Option.map_eq_some_iff] at h
    obtain ⟨⟨v1, σ1⟩, h1, ⟨cs1, σ2⟩, h2, h3⟩ := h
    cases h3
    obtain ⟨x, xs, rfl, hx, hxs⟩ := hv.uncons
    obtain ⟨G1, sr1, mv1, d1, r1⟩ := give_ok sr hx h1
    obtain ⟨G2, sr2, mv2, d2, r2⟩ := gives_ok cs sr1 (hxs.mono mv1.ge) h2
    refine ⟨G2, sr2, mv1.trans mv2, fun c hc => ?_, .cons (r1.mono mv2.ge) r2⟩
    rcases List.mem_cons.1 hc with rfl | hc
    · exact d1
    · exact d2 c hc

/-- An argument as the callee gets it. -/
def VA (G : Gh) (w : World) (refs : List Nat) (v : AV) (x : Value) : Prop := (dd v = v ∧ VR G w v x) ∨ ∃ k b, v = .loc k 0 ∧ refs[k]? = some b ∧ VR G w (.loc b 0) x

theorem VA.mono {G G' : Gh} {w w' : World} (hg : Ge G w G' w') {refs e : List Nat} {v : AV} {x : Value} (h : VA G w refs v x) : VA G' w' (refs ++ e) v x := by
  rcases h with ⟨h1, h2⟩ | ⟨k, b, h1, h2, h3⟩
  · exact .inl ⟨h1, h2.mono hg⟩
  · exact .inr ⟨k, b, h1, by rw [List.getElem?_append_left (List.getElem?_eq_some_iff.1 h2).1]; exact h2, h3.mono hg⟩

theorem handOne_ok {cx : Cx} {w : World} {tk : List Nat} {G : Gh} {t : Nat} {refs refs' : List Nat} {σ σ' : List (List AV)} {v v' : AV} {x : Value} (sr : SR G ⟨σ, tk⟩ w) (hv : VR G w v x) (h : handOne cx t refs σ v = some (v', refs', σ')) :
    ∃ G', SR G' ⟨σ', tk⟩ w ∧ Mv G w G' w ∧ (refs' = refs ∨ ∃ b, refs' = refs ++ [b] ∧ b ∉ refs) ∧ VA G' w refs' v' x := by
  have plain : ∀ {v : AV}, VR G w v x → ∃ G', SR G' ⟨σ, tk⟩ w ∧ Mv G w G' w ∧ (refs = refs ∨ ∃ b, refs = refs ++ [b] ∧ b ∉ refs) ∧ VA G' w refs (dd v) x := fun hv =>
    ⟨G, sr, Mv.refl G w, .inl rfl, .inl ⟨dd_dd _, hv.dd same_cells⟩⟩
  unfold handOne at h
  split at h
  · rename_i b off
    split at h
    · cases h
    · split at h
      · split at h
        · rename_i hc
          obtain ⟨rfl, hnc⟩ := hc
          cases h
          exact ⟨G, sr, Mv.refl G w, .inr ⟨b, rfl, by simpa using hnc⟩, .inr ⟨refs.length, b, rfl, by simp, hv⟩⟩
        · cases h
      · obtain ⟨⟨v1, σ1⟩, h1, h2⟩ := Option.map_eq_some_iff.1 h
        cases h2
        obtain ⟨G1, sr1, mv1, d1, r1⟩ := give_ok sr hv h1
        exact ⟨G1, sr1, mv1, .inl rfl, .inl ⟨d1, r1⟩⟩
  · rename_i f cs
    split at h
    · cases h
    · obtain ⟨⟨cs1, σ1⟩, h1, h2⟩ := Option.map_eq_some_iff.1 h
      cases h2
      cases hv with
      | @fn _ _ us hl hr =>
        obtain ⟨G1, sr1, mv1, d1, r1⟩ := gives_ok cs sr ⟨hl, hr⟩ h1
        refine ⟨G1, sr1, mv1, .inl rfl, .inl ⟨?_, .fn r1.1 r1.2⟩⟩
        unfold dd
        simp only [mapLoc, mapLocs_eq]
        congr 1
        exact (List.map_congr_left (g := id) fun c hc => d1 c hc).trans (List.map_id _)
  · cases h
    exact plain hv

theorem hand_ok {cx : Cx} {w : World} {tk : List Nat} : ∀ (args : List AV) {G : Gh} {ts refs : List Nat} {σ : List (List AV)} {vs : List Value} {o : Over}, SR G ⟨σ, tk⟩ w → VRs G w args vs → hand cx ts refs σ args = some o →
    ∃ G', SR G' ⟨o.σ, tk⟩ w ∧ Mv G w G' w ∧ (∃ e, o.refs = refs ++ e) ∧ (refs.Nodup → o.refs.Nodup) ∧ o.args.length = vs.length ∧ ∀ (i : Nat) (a : AV) (x : Value), o.args[i]? = some a → vs[i]? = some x → VA G' w o.refs a x
  | [], G, ts, refs, σ, vs, o, sr, hv, h => by
    have : vs = [] := List.eq_nil_of_length_eq_zero (by have := hv.1; simpa using this.symm)
    subst this
    simp only [hand] at h
    cases h
    exact ⟨G, sr, Mv.refl G w, ⟨[], by simp⟩, id, rfl, fun i a x h => by simp at h⟩
  | v :: args, G, ts, refs, σ, vs, o, sr, hv, h => by
    simp only [hand, Option.bind_eq_some_iff, Option.map_eq_some_iff] at h
    obtain ⟨⟨v1, refs1, σ1⟩, h1, o1, h2, rfl⟩ := h
    obtain ⟨x, xs, rfl, hx, hxs⟩ := hv.uncons
    obtain ⟨G1, sr1, mv1, q1, a1⟩ := handOne_ok sr hx h1
    obtain ⟨G2, sr2, mv2, ⟨e, q2⟩, nd2, len2, a2⟩ := hand_ok args sr1 (hxs.mono mv1.ge) h2
    refine ⟨G2, sr2, mv1.trans mv2, ?_, fun hn => nd2 ?_, by simp [len2], fun i a y hi hy => ?_⟩
    · rcases q1 with q1 | ⟨b, q1, _⟩
      · exact ⟨e, by simp only [q2, q1]⟩
      · exact ⟨[b] ++ e, by simp only [q2, q1, List.append_assoc]⟩
    · rcases q1 with q1 | ⟨b, q1, hb⟩
      · simp only [q1]; exact hn
      · simp only [q1]
        rw [List.nodup_append]
        exact ⟨hn, by simp, fun a ha c hc => by simp at hc; subst hc; intro e; subst e; exact hb ha⟩
    · cases i with
      | zero =>
        simp at hi hy
        subst hi; subst hy
        simp only [q2]
        exact a1.mono mv2.ge
      | succ i => exact a2 i a y (by simpa using hi) (by simpa using hy)

end M
end Go.Proofs.Ytgkdehfbeejlfaa
