/- SOUNDNESS 8: the world as a callee sees it; a call as a whole. -/
import Derived.Test.YtgkdehfbeejlfaaMc8
set_option linter.unusedVariables false
set_option linter.unusedSimpArgs false
namespace Go.Proofs.Ytgkdehfbeejlfaa
namespace M

/-- The callee's ghost: its blocks are those handed by reference; all else that may change is others'. -/
def calleeG (G : Gh) (refs : List Nat) : Gh :=
  let locs := refs.map fun b => (G.loc[b]?).getD none
  ⟨locs, [], G.out ++ G.tok.map (·.2) ++ G.loc.filterMap fun o => o.bind fun b => if some b ∈ locs then none else some (b, 0)⟩

theorem callee_loc {G : Gh} {refs : List Nat} {b : Nat} (h : some b ∈ (calleeG G refs).loc) : ∃ (k i : Nat), refs[k]? = some i ∧ G.loc[i]? = some (some b) := by
  obtain ⟨i, hi, e⟩ := List.mem_map.1 h
  obtain ⟨k, hk⟩ := List.getElem?_of_mem hi
  refine ⟨k, i, hk, ?_⟩
  cases hg : G.loc[i]? with
  | none => rw [hg] at e; cases e
  | some o => rw [hg] at e; exact congrArg some e

theorem callee_stab {G : Gh} {w : World} {refs : List Nat} {a : Addr} : Stab (calleeG G refs) w a ↔ Stab G w a := by
  constructor
  · intro s
    refine ⟨s.1, fun hm => ?_, fun e he hb => s.2.2.2 e.2 (List.mem_append_left _ (List.mem_append_right _ (List.mem_map.2 ⟨e, he, rfl⟩))) hb, fun e he hb => s.2.2.2 e (List.mem_append_left _ (List.mem_append_left _ he)) hb⟩
    have := s.2.2.2 (a.block, 0) (List.mem_append_right _ (List.mem_filterMap.2 ⟨some a.block, hm, by
      simp only [Option.bind_some]
      exact if_neg s.2.1⟩)) rfl
    simp at this
  · intro s
    refine ⟨s.1, fun hm => ?_, fun e he => by simp [calleeG] at he, fun e he hb => ?_⟩
    · obtain ⟨k, i, _, h⟩ := callee_loc hm
      exact s.2.1 (List.mem_of_getElem? h)
    · rcases List.mem_append.1 he with he | he
      · rcases List.mem_append.1 he with he | he
        · exact s.2.2.2 e he hb
        · obtain ⟨x, hx, rfl⟩ := List.mem_map.1 he
          exact s.2.2.1 x hx hb
      · obtain ⟨o, ho, h⟩ := List.mem_filterMap.1 he
        cases o with
        | none => cases h
        | some b =>
          simp only [Option.bind_some] at h
          split at h
          · cases h
          · cases h
            exact absurd (hb ▸ ho) s.2.1

theorem callee_sr {G : Gh} {w : World} {S : St} {refs : List Nat} (sr : SR G S w) (nd : refs.Nodup) (hne : ∀ b ∈ refs, (S.σ[b]?).getD [] ≠ []) :
    SR (calleeG G refs) ⟨refs.map fun b => ((S.σ[b]?).getD []).map dd, []⟩ w where
  len := by simp [calleeG]
  blk := fun i cs hi hn => by
    simp only [List.getElem?_map, Option.map_eq_some_iff] at hi
    obtain ⟨b, hb, rfl⟩ := hi
    cases hs : S.σ[b]? with
    | none => exact absurd (by rw [hs]; rfl) (hne b (List.mem_of_getElem? hb))
    | some cs =>
      have hc : cs ≠ [] := by have := hne b (List.mem_of_getElem? hb); rw [hs] at this; exact this
      obtain ⟨blk, vs, t, g1, g2, g3, g4⟩ := sr.blk b cs hs hc
      refine ⟨blk, vs, t, ?_, g2, ?_, g4⟩
      · simp only [calleeG, List.getElem?_map, hb, Option.map_some, g1, Option.getD_some]
      · exact g3.dd fun a u h s => ⟨h, callee_stab.2 s⟩
  nd := fun i j b hi hj => by
    simp only [calleeG, List.getElem?_map, Option.map_eq_some_iff] at hi hj
    obtain ⟨x, hx, ex⟩ := hi
    obtain ⟨y, hy, ey⟩ := hj
    have gx : G.loc[x]? = some (some b) := by
      cases hg : G.loc[x]? with
      | none => rw [hg] at ex; cases ex
      | some o => rw [hg] at ex; exact congrArg some ex
    have gy : G.loc[y]? = some (some b) := by
      cases hg : G.loc[y]? with
      | none => rw [hg] at ey; cases ey
      | some o => rw [hg] at ey; exact congrArg some ey
    have := sr.nd x y b gx gy
    subst this
    exact (List.getElem?_inj (List.getElem?_eq_some_iff.1 hx).1 nd).1 (hx.trans hy.symm)
  tk := rfl
  tnd := fun i j v b k v' k' h => by simp [calleeG] at h
  dis := fun e he => by simp [calleeG] at he
  tlt := fun e he => by simp [calleeG] at he
  llt := fun b hb => by
    obtain ⟨k, i, _, h⟩ := callee_loc hb
    exact sr.llt b (List.mem_of_getElem? h)
  od := fun e he => by
    refine ⟨?_, fun hm => ?_, fun e' he' => by simp [calleeG] at he'⟩
    · rcases List.mem_append.1 he with he | he
      · rcases List.mem_append.1 he with he | he
        · exact (sr.od e he).1
        · obtain ⟨x, hx, rfl⟩ := List.mem_map.1 he
          exact sr.tlt x hx
      · obtain ⟨o, ho, h⟩ := List.mem_filterMap.1 he
        cases o with
        | none => cases h
        | some b =>
          simp only [Option.bind_some] at h
          split at h
          · cases h
          · cases h
            exact sr.llt b ho
    · obtain ⟨k, i, hk, h⟩ := callee_loc hm
      rcases List.mem_append.1 he with he | he
      · rcases List.mem_append.1 he with he | he
        · exact (sr.od e he).2.1 (List.mem_of_getElem? h)
        · obtain ⟨x, hx, rfl⟩ := List.mem_map.1 he
          exact sr.dis x hx (List.mem_of_getElem? h)
      · obtain ⟨o, ho, h'⟩ := List.mem_filterMap.1 he
        cases o with
        | none => cases h'
        | some b =>
          simp only [Option.bind_some] at h'
          split at h'
          · cases h'
          · rename_i hn
            cases h'
            exact hn hm

/-- What a callee promises, seen from outside. -/
def Promise (P : Program) (f : Nat) (args : List AV) (σ0 : List (List AV)) (r : AV) (σ1 : List (List AV)) : Prop :=
  ∀ (G : Gh) (w : World) (vs : Array Value), G.tok = [] → SR G ⟨σ0, []⟩ w → VRs G w args vs.toList → Calls P f vs w fun e w' => match e with
    | .returned v => VR G w' r v ∧ SR G ⟨σ1, []⟩ w' ∧ Mv G w G w'
    | _ => False

/-- The same of a function that makes a place. -/
def MkPromise (P : Program) (f : Nat) (args : List AV) (cs : List AV) : Prop :=
  ∀ (G : Gh) (w : World) (vs : Array Value), G.tok = [] → G.loc = [] → SR G ⟨[], []⟩ w → VRs G w args vs.toList → Calls P f vs w fun e w' => match e with
    | .returned v => ∃ b, v = .pointer (some ⟨b, 0, none⟩) ∧ w.heap.size ≤ b ∧ SR ⟨[some b], [], G.out⟩ ⟨[cs], []⟩ w' ∧ Mv G w G w'
    | _ => False

/-- The oracle's answers are what the program's functions return. -/
def CSound (cx : Cx) (C : Oracle) : Prop := ∀ (f : Nat) (args : List AV) (σ0 : List (List AV)) (r : AV) (σ1 : List (List AV)), C f args σ0 = some (r, σ1) → (∀ c ∈ σ0, c ≠ []) →
  (∃ fn, cx.P.funcs[f]? = some fn ∧ fn.body.isNone = false ∧ (fn.name == "runtime.NumGoroutine") = false) ∧
  (cx.mkf f = true → ∀ cs, σ0 = [] → r = .loc 0 0 → σ1 = [cs] → cs ≠ [] ∧ (∀ x ∈ cs, dd x = x) ∧ MkPromise cx.P f args cs) ∧ (cx.mkf f = false → dd r = r ∧ σ1.length = σ0.length ∧ (∀ c ∈ σ1, c ≠ [] ∧ ∀ x ∈ c, dd x = x) ∧ Promise cx.P f args σ0 r σ1)

theorem putBack_length : ∀ (refs : List Nat) (css σ : List (List AV)), (putBack σ refs css).length = σ.length
  | [], css, σ => by cases css <;> rfl
  | b :: bs, [], σ => rfl
  | b :: bs, c :: css, σ => by simp only [putBack]; rw [putBack_length bs css]; simp

theorem putBack_get : ∀ (refs : List Nat) (css σ : List (List AV)) (i : Nat) (c : List AV), refs.Nodup → (putBack σ refs css)[i]? = some c →
    (∃ k : Nat, refs[k]? = some i ∧ css[k]? = some c) ∨ ((i ∉ refs ∨ refs.length ≠ css.length) ∧ σ[i]? = some c)
  | [], css, σ, i, c, nd, h => .inr ⟨.inl (by simp), by cases css <;> exact h⟩
  | b :: bs, [], σ, i, c, nd, h => .inr ⟨.inr (by simp), h⟩
  | b :: bs, d :: css, σ, i, c, nd, h => by
    simp only [putBack] at h
    rcases putBack_get bs css _ i c (List.nodup_cons.1 nd).2 h with ⟨k, h1, h2⟩ | ⟨h1, h2⟩
    · exact .inl ⟨k + 1, h1, h2⟩
    · by_cases hb : b = i
      · subst hb
        simp only [List.getElem?_set] at h2
        split at h2
        · split at h2
          · cases h2; exact .inl ⟨0, rfl, rfl⟩
          · cases h2
        · contradiction
      · rw [List.getElem?_set_ne hb] at h2
        refine .inr ⟨?_, h2⟩
        rcases h1 with h1 | h1
        · exact .inl (by simp only [List.mem_cons, not_or]; exact ⟨Ne.symm hb, h1⟩)
        · exact .inr (by simpa using h1)

/-- A call, from the caller's side. -/
theorem callT_ok {cx : Cx} {C : Oracle} (cs : CSound cx C) {G : Gh} {w : World} {S S' : St} {f : Nat} {args : List AV} {vs : Array Value} {v : AV} (sr : SR G S w) (hv : VRs G w args vs.toList) (hmk : cx.mkf f = false) (h : callT cx C S f args = some (v, S')) :
    (∃ fn, cx.P.funcs[f]? = some fn ∧ fn.body.isNone = false ∧ (fn.name == "runtime.NumGoroutine") = false) ∧ Calls cx.P f vs w fun e w' => match e with
      | .returned u => ∃ G', VR G' w' v u ∧ SR G' S' w' ∧ Mv G w G' w'
      | _ => False := by
  simp only [callT, Option.bind_eq_some_iff] at h
  obtain ⟨fn, hf, o, ho, h⟩ := h
  split at h
  · cases h
  · rename_i hne
    obtain ⟨⟨r, σ1⟩, hc, h⟩ := Option.map_eq_some_iff.1 h
    cases h
    obtain ⟨G1, sr1, mv1, _, nd1, len1, a1⟩ := hand_ok (tk := S.tk) args sr hv ho
    have nd := nd1 List.nodup_nil
    have hne' : ∀ b ∈ o.refs, (o.σ[b]?).getD [] ≠ [] := fun b hb he => hne (List.any_eq_true.2 ⟨b, hb, by rw [he]; rfl⟩)
    have sr2 := callee_sr sr1 nd hne'
    have va : VRs (calleeG G1 o.refs) w o.args vs.toList := by
      refine ⟨len1, fun i p q => ?_⟩
      rcases a1 i _ _ (List.getElem?_eq_getElem p) (List.getElem?_eq_getElem q) with ⟨d, h⟩ | ⟨k, b, e, hk, h⟩
      · exact h.conv (fun a u h s => ⟨h, callee_stab.2 s⟩) d
      · rw [e]
        generalize vs.toList[i] = x at h
        cases h with
        | @loc _ _ a' o' hl hvv => exact .loc (o := o') (by simp only [calleeG, List.getElem?_map, hk, Option.map_some, hl, Option.getD_some]) hvv
    obtain ⟨hfn, _, hplain⟩ := cs f o.args _ r σ1 hc (fun c hm => by
      obtain ⟨b, hb, rfl⟩ := List.mem_map.1 hm
      simpa using hne' b hb)
    obtain ⟨dr, hl1, hd1, prom⟩ := hplain hmk
    refine ⟨hfn, (prom _ w vs rfl sr2 va).mono fun e w' he => ?_⟩
    cases e with
    | returned u =>
      obtain ⟨hr, sr3, mv3⟩ := he
      have hsub : ∀ b, some b ∈ (calleeG G1 o.refs).loc → some b ∈ G1.loc := fun b hb => by
        obtain ⟨k, i, _, h⟩ := callee_loc hb
        exact List.mem_of_getElem? h
      have hblk : ∀ i, i < w.heap.size → some i ∉ (calleeG G1 o.refs).loc → w'.heap[i]? = w.heap[i]? := fun i hi hn => mv3.blk i hi hn (fun e he => by simp [calleeG] at he)
      have back : ∀ (a : Addr) (u : Value), w'.cell? a = some u → Stab (calleeG G1 o.refs) w' a → w'.cell? a = some u ∧ Stab G1 w' a := fun a u h s => ⟨h, callee_stab.1 s⟩
      have ge : Ge G1 w G1 w' := {
        cell := fun a u hc s => ⟨(mv3.ge.cell a u hc (callee_stab.2 s)).1, s.old mv3.size⟩
        loc := fun i o l => .inl l
        tok := fun i v b k h => ⟨v, b, k, h, Nat.le_refl v, fun _ => ⟨rfl, rfl, fun n ⟨c, t, h1, h2⟩ => ⟨c, t, (hblk b (heap_lt h1) (fun hm => sr1.dis _ (List.mem_of_getElem? h) (hsub b hm))).trans h1, h2⟩⟩⟩
        out := rfl }
      have mv2 : Mv G1 w G1 w' := ⟨ge, mv3.os, mv3.tape, mv3.output, mv3.size, fun i hi hl _ => hblk i hi (fun hm => hl (hsub i hm)), fun b hb => .inl hb, fun e he => .inl ⟨e, he, rfl⟩⟩
      refine ⟨G1, hr.conv back dr, ?_, mv1.trans mv2⟩
      have hrl : o.refs.length = σ1.length := by rw [hl1]; simp
      exact {
        len := by simp only [putBack_length]; exact sr1.len
        blk := fun i c hi hn => by
          rcases putBack_get o.refs σ1 o.σ i c nd hi with ⟨k, h1, h2⟩ | ⟨h1, h2⟩
          · obtain ⟨b, us, t, g1, g2, g3, g4⟩ := sr3.blk k c h2 hn
            have gl : G1.loc[i]? = some (some b) := by
              simp only [calleeG, List.getElem?_map, h1, Option.map_some] at g1
              cases hg : G1.loc[i]? with
              | none => rw [hg] at g1; cases g1
              | some x => rw [hg] at g1; exact g1
            refine ⟨b, us, t, gl, g2, ⟨g3.1, fun j p q => ?_⟩, g4⟩
            exact (g3.2 j p q).conv back ((hd1 c (List.mem_of_getElem? h2)).2 _ (List.getElem_mem p))
          · have hni : i ∉ o.refs := h1.resolve_right (fun e => e hrl)
            obtain ⟨b, us, t, g1, g2, g3, g4⟩ := sr1.blk i c h2 hn
            refine ⟨b, us, t, g1, (hblk b (heap_lt g2) (fun hm => ?_)).trans g2, g3.mono ge, g4⟩
            obtain ⟨k, j, hk, h⟩ := callee_loc hm
            have := sr1.nd i j b g1 h
            subst this
            exact hni (List.mem_of_getElem? hk)
        nd := sr1.nd
        tk := sr1.tk
        tnd := sr1.tnd
        dis := sr1.dis
        tlt := fun e he => Nat.lt_of_lt_of_le (sr1.tlt e he) mv3.size
        llt := fun b hb => Nat.lt_of_lt_of_le (sr1.llt b hb) mv3.size
        od := fun e he => ⟨Nat.lt_of_lt_of_le (sr1.od e he).1 mv3.size, (sr1.od e he).2⟩ }
    | panicked c => exact he
    | outgrown => exact he

/-- A call that makes a place, from the caller's side. -/
theorem mkT_ok {cx : Cx} {C : Oracle} (cs : CSound cx C) {G : Gh} {w : World} {S S' : St} {f : Nat} {args : List AV} {vs : Array Value} {v : AV} (sr : SR G S w) (hv : VRs G w args vs.toList) (hmk : cx.mkf f = true) (h : mkT cx C S f args = some (v, S')) :
    (∃ fn, cx.P.funcs[f]? = some fn ∧ fn.body.isNone = false ∧ (fn.name == "runtime.NumGoroutine") = false) ∧ Calls cx.P f vs w fun e w' => match e with
      | .returned u => ∃ G', VR G' w' v u ∧ SR G' S' w' ∧ Mv G w G' w'
      | _ => False := by
  simp only [mkT, Option.bind_eq_some_iff] at h
  obtain ⟨fn, hf, o, ho, h⟩ := h
  split at h
  · rename_i hre
    obtain ⟨⟨r, σ1⟩, hc, h⟩ := Option.bind_eq_some_iff.1 h
    split at h
    · rename_i cells heq
      cases heq
      cases h
      obtain ⟨G1, sr1, mv1, _, nd1, len1, a1⟩ := hand_ok (tk := S.tk) args sr hv ho
      have hrefs : o.refs = [] := by simpa using hre
      have sr2 := callee_sr (refs := []) sr1 List.nodup_nil (by simp)
      have va : VRs (calleeG G1 []) w o.args vs.toList := by
        refine ⟨len1, fun i p q => ?_⟩
        rcases a1 i _ _ (List.getElem?_eq_getElem p) (List.getElem?_eq_getElem q) with ⟨d, h⟩ | ⟨k, b, e, hk, h⟩
        · exact h.conv (fun a u h s => ⟨h, callee_stab.2 s⟩) d
        · rw [hrefs] at hk; simp at hk
      obtain ⟨hfn, hmkp, _⟩ := cs f o.args [] _ _ hc (by simp)
      obtain ⟨hne, hdd, prom⟩ := hmkp hmk cells rfl rfl rfl
      refine ⟨hfn, (prom (calleeG G1 []) w vs rfl rfl sr2 va).mono fun e w' he => ?_⟩
      cases e with
      | returned u =>
        obtain ⟨b, rfl, hfresh, sr3, mv3⟩ := he
        have hblk : ∀ i, i < w.heap.size → w'.heap[i]? = w.heap[i]? := fun i hi => mv3.blk i hi (by simp [calleeG]) (fun e he => by simp [calleeG] at he)
        obtain ⟨b', us, t, g1, g2, g3, g4⟩ := sr3.blk 0 cells rfl hne
        simp at g1
        subst g1
        let G' : Gh := ⟨G1.loc ++ [some b], G1.tok, G1.out⟩
        have st : ∀ a, Stab ⟨[some b], [], (calleeG G1 []).out⟩ w' a → Stab G' w' a := fun a s => by
          have s1 : Stab G1 w' a := callee_stab.1 ⟨s.1, by simp [calleeG], fun e he => by simp [calleeG] at he, s.2.2.2⟩
          refine ⟨s1.1, fun hm => ?_, s1.2.2⟩
          rcases List.mem_append.1 hm with h | h
          · exact s1.2.1 h
          · exact s.2.1 h
        have ge : Ge G1 w G' w' := {
          cell := fun a u hc s => by
            refine ⟨(mv3.ge.cell a u hc (callee_stab.2 s)).1, Nat.lt_of_lt_of_le s.1 mv3.size, fun hm => ?_, s.2.2⟩
            rcases List.mem_append.1 hm with h | h
            · exact s.2.1 h
            · have := s.1; simp at h; omega
          loc := fun i o l => .inl (by simp only [G']; rw [List.getElem?_append_left (List.getElem?_eq_some_iff.1 l).1]; exact l)
          tok := fun i v b k h => ⟨v, b, k, h, Nat.le_refl v, fun _ => ⟨rfl, rfl, fun n ⟨c, t, h1, h2⟩ => ⟨c, t, (hblk b (heap_lt h1)).trans h1, h2⟩⟩⟩
          out := rfl }
        have hlt : b < w'.heap.size := heap_lt g2
        refine ⟨G', .loc (o := some b) (by simp only [G']; rw [sr1.len, List.getElem?_append_right (Nat.le_refl _)]; simp) (fun _ e => by cases e; rfl), ?_, mv1.trans ⟨ge, mv3.os, mv3.tape, mv3.output, mv3.size, fun i hi _ _ => hblk i hi, fun c hc => ?_, fun e he => .inl ⟨e, he, rfl⟩⟩⟩
        · have lk : ∀ (i c : Nat), G'.loc[i]? = some (some c) → (i < G1.loc.length ∧ G1.loc[i]? = some (some c)) ∨ (i = G1.loc.length ∧ c = b) := by
            intro i c h
            simp only [G'] at h
            rw [List.getElem?_append] at h
            split at h
            · exact .inl ⟨‹_›, h⟩
            · have := (List.getElem?_eq_some_iff.1 h).1
              have hi0 : i = G1.loc.length := by simp at this; omega
              subst hi0
              simp at h
              exact .inr ⟨rfl, h.symm⟩
          exact {
            len := by simp [G', sr1.len]
            blk := fun i c hi hn => by
              simp only [List.getElem?_append] at hi
              split at hi
              · obtain ⟨b1, vs1, t1, q1, q2, q3, q4⟩ := sr1.blk i c hi hn
                exact ⟨b1, vs1, t1, by simp only [G']; rw [List.getElem?_append_left (List.getElem?_eq_some_iff.1 q1).1]; exact q1, (hblk b1 (heap_lt q2)).trans q2, q3.mono ge, q4⟩
              · rename_i hge
                have hi0 : i = o.σ.length := by
                  have := (List.getElem?_eq_some_iff.1 hi).1
                  simp at this; omega
                subst hi0
                simp at hi
                subst hi
                exact ⟨b, us, t, by simp only [G']; rw [sr1.len, List.getElem?_append_right (Nat.le_refl _)]; simp, g2, ⟨g3.1, fun j p q => (g3.2 j p q).conv (fun a u h s => ⟨h, st a s⟩) (hdd _ (List.getElem_mem p))⟩, g4⟩
            nd := fun i j c hi hj => by
              rcases lk i c hi with ⟨p1, p2⟩ | ⟨p1, p2⟩ <;> rcases lk j c hj with ⟨q1, q2⟩ | ⟨q1, q2⟩
              · exact sr1.nd i j c p2 q2
              · have := sr1.llt c (List.mem_of_getElem? p2); omega
              · have := sr1.llt c (List.mem_of_getElem? q2); omega
              · omega
            tk := sr1.tk
            tnd := sr1.tnd
            dis := fun e he hm => by
              rcases List.mem_append.1 hm with h | h
              · exact sr1.dis e he h
              · have := sr1.tlt e he; simp at h; omega
            tlt := fun e he => Nat.lt_of_lt_of_le (sr1.tlt e he) mv3.size
            llt := fun c hm => by
              rcases List.mem_append.1 hm with h | h
              · exact Nat.lt_of_lt_of_le (sr1.llt c h) mv3.size
              · simp at h; omega
            od := fun e he => ⟨Nat.lt_of_lt_of_le (sr1.od e he).1 mv3.size, fun hm => by
              rcases List.mem_append.1 hm with h | h
              · exact (sr1.od e he).2.1 h
              · have := (sr1.od e he).1; simp at h; omega, (sr1.od e he).2.2⟩ }
        · rcases List.mem_append.1 hc with h | h
          · exact .inl h
          · simp at h; exact .inr (by omega)
      | panicked c => exact he
      | outgrown => exact he
    · cases h
  · cases h

end M
end Go.Proofs.Ytgkdehfbeejlfaa
