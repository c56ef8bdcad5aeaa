/- A part of the proof: Mc17, Mc18, Mc19, Calls1. -/
import Derived.Test.YthclcchnodjjpaaGreatDoorG08
import Derived.LoopN
/- SOUNDNESS 16: code, loops, bodies, calls all the way down. -/
set_option linter.unusedVariables false
set_option linter.unusedSimpArgs false
namespace Go.Proofs.YthclcchnodjjpaaGreatDoor
namespace M

/-- The regions without an order of a code pass the check. -/
def codeOk (cx : Cx) : Code → Bool
  | .region id ops true => regOk cx ops (cx.lz id)
  | .seq a b => codeOk cx a && codeOk cx b
  | .cond _ a b => codeOk cx a && codeOk cx b
  | .block _ b => codeOk cx b
  | .loop b => codeOk cx b
  | _ => true

def Ex.out : Ex → Exit
  | .normal => .normal
  | .exit i => .exit i
  | .ret => .ret

/-- What a run of T says of a code's run. -/
def Says (cx : Cx) (c : Code) (r : Regs) (S : St) (o : Out) : Prop := ∀ ⦃Q : Exit → Act → World → Prop⦄ ⦃G : Gh⦄ ⦃w : World⦄ ⦃a : Act⦄, VRs G w r a.tmps.toList → SR G S w →
  (∀ a' w' G', VRs G' w' o.r a'.tmps.toList → SR G' o.S w' → Mv G w G' w' → a'.defers = a.defers → Q o.ex.out a' w') → c.wp cx.P Q a w

def LSound (cx : Cx) (L : Loops) : Prop := ∀ (b : Code) (r : Regs) (S : St) (o : Out), codeOk cx b = true → L b r S = some o → Says cx (.loop b) r S o

theorem code_wp {cx : Cx} (ok : CxOk cx) {C : Oracle} (cs : CSound cx C) {L : Loops} (ls : LSound cx L) : ∀ (c : Code) (r : Regs) (S : St) (o : Out), codeOk cx c = true → codeT cx C L c r S = some o → Says cx c r S o
  | .skip, r, S, o, hc, h => by
    intro Q G w a hr sr hQ
    simp only [codeT, Option.some.injEq] at h
    subst h
    exact wp_skip (hQ a w G hr sr (Mv.refl G w) rfl)
  | .region id ops false, r, S, o, hc, h => by
    intro Q G w a hr sr hQ
    simp only [codeT, Option.map_eq_some_iff] at h
    obtain ⟨⟨r1, S1⟩, h1, rfl⟩ := h
    exact region_wp ok cs hr sr h1 hQ
  | .region id ops true, r, S, o, hc, h => by
    intro Q G w a hr sr hQ
    simp only [codeT, Option.bind_eq_some_iff] at h
    obtain ⟨⟨r1, S1⟩, h1, h⟩ := h
    split at h
    · rename_i hap
      cases h
      exact region_any_wp ok cs hc hr sr h1 hap hQ
    · cases h
  | .seq x y, r, S, o, hc, h => by
    intro Q G w a hr sr hQ
    simp only [codeOk, Bool.and_eq_true] at hc
    simp only [codeT, Option.bind_eq_some_iff] at h
    obtain ⟨o1, h1, h⟩ := h
    refine wp_seq (code_wp ok cs ls x r S o1 hc.1 h1 hr sr fun a1 w1 G1 p1 p2 p3 p4 => ?_)
    cases he : o1.ex with
    | normal =>
      rw [he] at h
      exact code_wp ok cs ls y o1.r o1.S o hc.2 h p1 p2 fun a2 w2 G2 q1 q2 q3 q4 => hQ a2 w2 G2 q1 q2 (p3.trans q3) (q4.trans p4)
    | exit i =>
      rw [he] at h
      cases h
      have := hQ a1 w1 G1 p1 p2 p3 p4
      rw [he] at this
      exact this
    | ret =>
      rw [he] at h
      cases h
      have := hQ a1 w1 G1 p1 p2 p3 p4
      rw [he] at this
      exact this
  | .cond c x y, r, S, o, hc, h => by
    intro Q G w a hr sr hQ
    simp only [codeOk, Bool.and_eq_true] at hc
    simp only [codeT, Option.bind_eq_some_iff] at h
    obtain ⟨v, hv, t, ht, h⟩ := h
    have : v = .bool t := by unfold asBoolT at ht; split at ht <;> cases ht; rfl
    subst this
    have hb := ev_rel sr.gl hr hv
    generalize hcc : a.eval c = cc at hb
    cases hb
    refine wp_cond hcc ?_
    cases t
    · exact code_wp ok cs ls y r S o hc.2 h hr sr hQ
    · exact code_wp ok cs ls x r S o hc.1 h hr sr hQ
  | .block id b, r, S, o, hc, h => by
    intro Q G w a hr sr hQ
    simp only [codeT, Option.map_eq_some_iff] at h
    obtain ⟨o1, h1, h⟩ := h
    refine wp_block (code_wp ok cs ls b r S o1 hc h1 hr sr fun a1 w1 G1 p1 p2 p3 p4 => ?_)
    cases he : o1.ex with
    | normal =>
      rw [he] at h
      subst h
      have := hQ a1 w1 G1 p1 p2 p3 p4
      rw [he] at this
      exact this
    | exit i =>
      rw [he] at h
      simp only at h
      simp only [Ex.out, Exit.inBlock]
      split at h
      · rename_i hi
        subst h
        rw [if_pos hi]
        exact hQ a1 w1 G1 p1 p2 p3 p4
      · rename_i hi
        subst h
        rw [if_neg hi]
        have := hQ a1 w1 G1 p1 p2 p3 p4
        rw [he] at this
        exact this
    | ret =>
      rw [he] at h
      subst h
      have := hQ a1 w1 G1 p1 p2 p3 p4
      rw [he] at this
      exact this
  | .exit id, r, S, o, hc, h => by
    intro Q G w a hr sr hQ
    simp only [codeT, Option.some.injEq] at h
    subst h
    exact wp_exit (hQ a w G hr sr (Mv.refl G w) rfl)
  | .ret, r, S, o, hc, h => by
    intro Q G w a hr sr hQ
    simp only [codeT, Option.some.injEq] at h
    subst h
    exact wp_ret (hQ a w G hr sr (Mv.refl G w) rfl)
  | .loop b, r, S, o, hc, h => ls b r S o hc h
  | .rangeFunc _ _ _ _, r, S, o, hc, h => by simp only [codeT] at h; cases h
  | .scope _, r, S, o, hc, h => by simp only [codeT] at h; cases h
  | .label _, r, S, o, hc, h => by simp only [codeT] at h; cases h
  | .goto _, r, S, o, hc, h => by simp only [codeT] at h; cases h
  | .refuse _, r, S, o, hc, h => by simp only [codeT] at h; cases h

theorem rounds_of {cx : Cx} (ok : CxOk cx) {C : Oracle} (cs : CSound cx C) : ∀ (n : Nat) (b : Code) (r : Regs) (S : St) (o : Out), codeOk cx b = true → loopN cx C n b r S = some o → ∀ ⦃Q : Exit → Act → World → Prop⦄ ⦃G : Gh⦄ ⦃w : World⦄ ⦃a : Act⦄, VRs G w r a.tmps.toList → SR G S w →
    (∀ a' w' G', VRs G' w' o.r a'.tmps.toList → SR G' o.S w' → Mv G w G' w' → a'.defers = a.defers → Q o.ex.out a' w') → Code.rounds cx.P b Q n a w
  | 0, b, r, S, o, hc, h => by simp only [loopN] at h; cases h
  | n + 1, b, r, S, o, hc, h => by
    intro Q G w a hr sr hQ
    simp only [loopN, Option.bind_eq_some_iff] at h
    obtain ⟨o1, h1, h⟩ := h
    rw [rounds_succ]
    refine code_wp ok cs (L := loopN cx C n) (fun b r S o hc h _ _ _ _ hr sr hQ => wp_loop_rounds n (rounds_of ok cs n b r S o hc h hr sr hQ)) b r S o1 hc h1 hr sr fun a1 w1 G1 p1 p2 p3 p4 => ?_
    cases he : o1.ex with
    | normal =>
      rw [he] at h
      exact rounds_of ok cs n b o1.r o1.S o hc h p1 p2 fun a2 w2 G2 q1 q2 q3 q4 => hQ a2 w2 G2 q1 q2 (p3.trans q3) (q4.trans p4)
    | exit i =>
      rw [he] at h
      cases h
      have := hQ a1 w1 G1 p1 p2 p3 p4
      rw [he] at this
      exact this
    | ret =>
      rw [he] at h
      cases h
      have := hQ a1 w1 G1 p1 p2 p3 p4
      rw [he] at this
      exact this

theorem loop_sound {cx : Cx} (ok : CxOk cx) {C : Oracle} (cs : CSound cx C) (n : Nat) : LSound cx (loopN cx C n) := fun b r S o hc h _ _ _ _ hr sr hQ => wp_loop_rounds n (rounds_of ok cs n b r S o hc h hr sr hQ)

/-! ### Bodies -/
theorem results_ok {cx : Cx} (ok : CxOk cx) {G : Gh} {w : World} {r : Regs} {S : St} {tmps : Array Value} (hr : VRs G w r tmps.toList) (sr : SR G S w) : ∀ (l : List ResultVar) (vs : List AV), resultsT cx r S l = some vs →
    ∃ us, (l.mapM (fun | ResultVar.tmp t => (pure (tmps.getD t Go.undef) : Sem Value) | ResultVar.cell a t => do loadVar t (← asAddr (tmps.getD a Go.undef)))).run cx.P w = .ok us w ∧ VRs G w vs us
  | [], vs, h => by cases h; exact ⟨[], by simp, VRs.nil G w⟩
  | x :: l, vs, h => by
    simp only [resultsT, Option.bind_eq_some_iff, Option.map_eq_some_iff] at h
    obtain ⟨v, hv, vs', h1, rfl⟩ := h
    obtain ⟨us, e1, r1⟩ := results_ok ok hr sr l vs' h1
    cases x with
    | tmp t =>
      cases hv
      exact ⟨_, by simp only [List.mapM_cons, Sem.run_bind, Sem.run_pure, Result.andThen_ok, e1], .cons (getD_rel hr t) r1⟩
    | cell p t =>
      obtain ⟨u, e2, r2⟩ := loadT_ok ok sr (getD_rel hr p) hv
      have hp := getD_rel hr p
      refine ⟨u :: us, ?_, .cons r2 r1⟩
      have hx : ∃ q, tmps.getD p Go.undef = .pointer (some q) := by
        simp only [resultT] at hv
        unfold loadT at hv
        split at hv
        · rename_i heq; rw [heq] at hp; generalize tmps.getD p Go.undef = x at hp; cases hp; exact ⟨_, rfl⟩
        · rename_i heq; rw [heq] at hp; generalize tmps.getD p Go.undef = x at hp; cases hp; exact ⟨_, rfl⟩
        · cases hv
      obtain ⟨q, hq⟩ := hx
      simp only [hq, Instr.loadAt, Instr.sureAddr, Sem.run_bind, Sem.run_pure, Result.andThen_ok] at e2
      rw [List.mapM_cons]
      have e3 : (do loadVar t (← asAddr (tmps.getD p Go.undef)) : Sem Value).run cx.P w = .ok u w := by
        simp only [hq, asAddr, Sem.run_bind, Sem.run_pure, Result.andThen_ok, e2]
      simp only [Sem.run_bind] at e3 ⊢
      rw [e3]
      simp only [Result.andThen_ok, Sem.run_bind]
      rw [e1]
      simp only [Result.andThen_ok, Sem.run_pure]

theorem pack_rel {G : Gh} {w : World} {vs : List AV} {us : List Value} (h : VRs G w vs us) : VR G w (pack vs) (if h : us.toArray.size = 1 then us.toArray[0] else .tuple us.toArray) := by
  cases vs with
  | nil =>
    have : us = [] := List.eq_nil_of_length_eq_zero (by have := h.1; simpa using this.symm)
    subst this
    exact VR.tup_of (vs := #[]) (VRs.nil G w)
  | cons v vs =>
    obtain ⟨u, us, rfl, h1, h2⟩ := h.uncons
    cases vs with
    | nil =>
      have : us = [] := List.eq_nil_of_length_eq_zero (by have := h2.1; simpa using this.symm)
      subst this
      simpa [pack] using h1
    | cons v' vs =>
      obtain ⟨u', us, rfl, h3, h4⟩ := h2.uncons
      have : ¬ (u :: u' :: us).toArray.size = 1 := by simp
      rw [dif_neg this]
      exact VR.tup_of (vs := (u :: u' :: us).toArray) (.cons h1 (.cons h3 h4))

/-- The program's functions pass the check. -/
def BodiesOk (cx : Cx) : Prop := ∀ (f : Nat) (fn : Func) (c : Code), cx.ext f = false → cx.P.funcs[f]? = some fn → fn.body = some c → codeOk (cx.at f) c = true

theorem fz_rel {G G' : Gh} {S : St} {w : World} (sr : SR G S w) {n : Nat} (hc : ∀ (a : Addr) (u : Value), w.cell? a = some u → Stab G w a → w.cell? a = some u ∧ Stab G' w a) (hnew : ∀ (i b : Nat), n ≤ i → G.loc[i]? = some (some b) → ∀ j, Stab G' w ⟨b, j, none⟩) :
    ∀ (k : Nat) {v : AV} {u : Value}, VR G w v u → VR G' w (fz S.σ n k v) u
  | 0, v, u, h => h.dd hc
  | k + 1, v, u, h => by
    refine VR.weaken hc _ h fun b off x hx => ?_
    by_cases hb : b < n
    · simp only [if_pos hb]; exact .undef
    · simp only [if_neg hb]
      split
      · rename_i cs hcs
        cases hx with
        | @loc _ _ a o hl hv =>
          by_cases hne : cs = []
          · subst hne
            simp only [List.drop_nil, List.map_nil]
            exact .rp (fun _ => Go.undef) (fun j hj => by simp at hj) (fun j hj => by simp at hj)
          · obtain ⟨blk, vs, t, g1, g2, g3, g4⟩ := sr.blk b cs hcs hne
            rw [g1] at hl
            cases hl
            have ha := hv blk rfl
            subst ha
            have hlen : cs.length = vs.size := by have := g3.1; simpa using this
            refine .rp (fun j => vs.toList.getD (off + j) Go.undef) (fun j hj => ?_) (fun j hj => ?_)
            · simp only [List.length_map, List.length_drop] at hj
              have hlt : off + j < vs.toList.length := by simp; omega
              have hg : vs.toList.getD (off + j) Go.undef = vs.toList[off + j] := by simp only [List.getD, List.getElem?_eq_getElem hlt, Option.getD_some]
              have hadd : (⟨blk, off, none⟩ : Addr).add j = ⟨blk, off + j, none⟩ := by unfold Addr.add; split <;> simp_all
              rw [hadd, hg]
              refine ⟨?_, hnew b blk (by omega) g1 _, g4 _ (List.getElem_mem hlt)⟩
              rw [cell_of_row _ _ _ vs t (0, 0) g2]
              simp
            · simp only [List.length_map, List.length_drop] at hj
              have hlt : off + j < vs.toList.length := by simp; omega
              have hg : vs.toList.getD (off + j) Go.undef = vs.toList[off + j] := by simp only [List.getD, List.getElem?_eq_getElem hlt, Option.getD_some]
              simp only [hg, List.getElem_map, List.getElem_drop]
              exact fz_rel sr hc hnew k (g3.2 (off + j) (by omega) hlt)
      · exact .undef

theorem body_sound {cx : Cx} (ok : CxOk cx) (hb : BodiesOk cx) {C : Oracle} (cs : CSound cx C) {f : Nat} {L : Loops} (ls : LSound (cx.at f) L) {args : List AV} {σ0 σ1 : List (List AV)} {r : AV} (h : bodyT cx (codeT (cx.at f) C L) f args σ0 = some (r, σ1)) (h0 : ∀ c ∈ σ0, c ≠ []) (hx : cx.ext f = false) :
    (∃ fn, cx.P.funcs[f]? = some fn ∧ fn.body.isNone = false ∧ (fn.name == "runtime.NumGoroutine") = false) ∧ (cx.mkf f = true → ∀ cs, σ0 = [] → r = .loc 0 0 → σ1 = [cs] → cs ≠ [] ∧ (∀ x ∈ cs, dd x = x) ∧ MkPromise cx.P f args cs) ∧ (cx.mkf f = false → dd r = r ∧ σ1.length = σ0.length ∧ (∀ c ∈ σ1, c ≠ [] ∧ ∀ x ∈ c, dd x = x) ∧ Promise cx.P f args σ0 r σ1) := by
  simp only [bodyT, Option.bind_eq_some_iff] at h
  obtain ⟨fn, hf, c, hbody, h⟩ := h
  split at h
  · cases h
  · rename_i hname
    obtain ⟨o, ho, h⟩ := Option.bind_eq_some_iff.1 h
    have hex : (o.ex = .normal ∨ o.ex = .ret) ∧ ((resultsT cx o.r o.S fn.results.toList).bind fun vs => if cx.mkf f = true then (match σ0, vs with
        | [], [.loc b 0] => (o.S.σ[b]?).bind fun cs => if cs.isEmpty = true then none else some (.loc 0 0, [cs.map dd])
        | _, _ => none) else if ((o.S.σ.take σ0.length).any List.isEmpty || decide (o.S.σ.length < σ0.length)) = true then none else
        some (fz o.S.σ σ0.length o.S.σ.length (pack vs), (o.S.σ.take σ0.length).map (·.map dd))) = some (r, σ1) := by
      cases he : o.ex with
      | normal => rw [he] at h; exact ⟨.inl rfl, h⟩
      | ret => rw [he] at h; exact ⟨.inr rfl, h⟩
      | exit i => rw [he] at h; cases h
    obtain ⟨hex, h⟩ := hex
    obtain ⟨vs, hvs, h⟩ := Option.bind_eq_some_iff.1 h
    by_cases hmk : cx.mkf f = true
    · rw [if_pos hmk] at h
      refine ⟨⟨fn, hf, by rw [hbody]; rfl, by simpa using hname⟩, fun _ cs' hσ0 hr' hσ1 => ?_, fun e => by rw [e] at hmk; cases hmk⟩
      subst hσ0; subst hr'; subst hσ1
      split at h
      · rename_i b _
        obtain ⟨c0, hc0, h⟩ := Option.bind_eq_some_iff.1 h
        split at h
        · cases h
        · rename_i hne
          cases h
          have hne : c0 ≠ [] := fun e => hne (by rw [e]; rfl)
          refine ⟨by simpa using hne, fun x hx => by obtain ⟨y, _, rfl⟩ := List.mem_map.1 hx; exact dd_dd y, fun G w us htok hloc sr hr => ?_⟩
          refine calls_of_wp hf hbody ?_
          have hr0 : VRs G w (args ++ List.replicate (fn.ntmps - args.length) (.tup [])) (us ++ Array.replicate (fn.ntmps - us.size) Go.undef).toList := by
            rw [Array.toList_append]
            refine hr.append ?_
            have : us.size = args.length := by have := hr.1; simpa using this.symm
            rw [this]
            refine ⟨by simp, fun i p q => ?_⟩
            simp only [List.getElem_replicate, Array.toList_replicate]
            exact VR.noval G w
          refine code_wp (cx := cx.at f) ⟨ok.ty, ok.mixed⟩ cs ls c _ _ o (hb f fn c hx hf hbody) ho hr0 sr fun a' w' G2 hr2 sr2 mv hd => ?_
          obtain ⟨blk, vs2, t, g1, g2, g3, g4⟩ := sr2.blk b c0 hc0 hne
          have hout : G2.out = G.out := mv.ge.out
          have hmem : some blk ∈ G2.loc := List.mem_of_getElem? g1
          have stab : ∀ a, Stab G2 w' a → Stab G w' a := fun a s => ⟨s.1, fun hm => by rw [hloc] at hm; simp at hm, fun e he => by rw [htok] at he; simp at he, by rw [← hout]; exact s.2.2.2⟩
          have stab1 : ∀ a, Stab G2 w' a → Stab ⟨[some blk], [], G.out⟩ w' a := fun a s => ⟨s.1, fun hm => by
            simp at hm; exact s.2.1 (by rw [hm]; exact hmem), fun e he => by simp at he, by rw [← hout]; exact s.2.2.2⟩
          obtain ⟨us2, e2, r2⟩ := results_ok ok hr2 sr2 fn.results.toList _ hvs
          obtain ⟨u, us3, rfl, hu, hnil⟩ := r2.uncons
          have : us3 = [] := List.eq_nil_of_length_eq_zero (by have := hnil.1; simpa using this.symm)
          subst this
          have hpost : a'.defers = [] ∧ ∃ v, (results fn a'.tmps).run cx.P w' = .ok v w' ∧ (∃ b, v = .pointer (some ⟨b, 0, none⟩) ∧ w.heap.size ≤ b ∧ SR ⟨[some b], [], G.out⟩ ⟨[c0.map dd], []⟩ w' ∧ Mv G w G w') := by
            refine ⟨hd, u, ?_, blk, ?_, ?_, ?_, ?_⟩
            · unfold results
              rw [Array.mapM_eq_mapM_toList]
              simp only [Sem.run_bind, Sem.run_map, map_eq_pure_bind, Result.andThen_ok, Sem.run_pure]
              erw [e2]
              simp
            · cases hu with
              | loc hl hv =>
                rw [g1] at hl
                cases hl
                rw [hv blk rfl]
            · rcases mv.nl blk hmem with h | h
              · rw [hloc] at h; simp at h
              · exact h
            · exact {
                len := rfl
                blk := fun i cs hi hn => by
                  cases i with
                  | zero =>
                    simp at hi
                    subst hi
                    exact ⟨blk, vs2, t, rfl, g2, g3.dd fun a u h s => ⟨h, stab1 a s⟩, g4⟩
                  | succ i => simp at hi
                nd := fun i j b hi hj => by
                  have hi' := (List.getElem?_eq_some_iff.1 hi).1
                  have hj' := (List.getElem?_eq_some_iff.1 hj).1
                  simp at hi' hj'; omega
                tk := rfl
                tnd := fun i j v b k v' k' h => by simp at h
                dis := fun e he => by simp at he
                tlt := fun e he => by simp at he
                llt := fun b hb => by simp at hb; subst hb; exact heap_lt g2
                od := fun e he => by
                  rw [← hout] at he
                  refine ⟨(sr2.od e he).1, fun hm => ?_, fun e' he' => by simp at he'⟩
                  simp at hm
                  exact (sr2.od e he).2.1 (by rw [hm]; exact hmem)
                gl := sr2.gl.conv fun a u h s => ⟨h, stab1 a s⟩ }
            · exact ⟨{ cell := fun a u hcc s => ⟨(mv.ge.cell a u hcc s).1, stab a (mv.ge.cell a u hcc s).2⟩
                       loc := fun i o l => .inl l
                       tok := fun i v b k h => by rw [htok] at h; simp at h
                       out := rfl }, mv.os, mv.tape, mv.output, mv.size, mv.blk, fun b hb => .inl hb, fun e he => .inl ⟨e, he, rfl⟩⟩
          rcases hex with he | he <;> rw [he] <;> exact hpost
      · cases h
    rw [if_neg hmk] at h
    split at h
    · cases h
    · rename_i hany
      cases h
      simp only [Bool.or_eq_true, decide_eq_true_eq, not_or] at hany
      obtain ⟨hany, hshort⟩ := hany
      have hane : ∀ c ∈ o.S.σ.take σ0.length, c ≠ [] := fun c hc e => hany (List.any_eq_true.2 ⟨c, hc, by rw [e]; rfl⟩)
      have main : Promise cx.P f args σ0 (fz o.S.σ σ0.length o.S.σ.length (pack vs)) ((o.S.σ.take σ0.length).map (·.map dd)) ∧ True := by
        refine ⟨fun G w us htok sr hr => ?_, trivial⟩
        refine calls_of_wp hf hbody ?_
        have hr0 : VRs G w (args ++ List.replicate (fn.ntmps - args.length) (.tup [])) (us ++ Array.replicate (fn.ntmps - us.size) Go.undef).toList := by
          rw [Array.toList_append]
          refine hr.append ?_
          have : us.size = args.length := by have := hr.1; simpa using this.symm
          rw [this]
          refine ⟨by simp, fun i p q => ?_⟩
          simp only [List.getElem_replicate, Array.toList_replicate]
          exact VR.noval G w
        refine code_wp (cx := cx.at f) ⟨ok.ty, ok.mixed⟩ cs ls c _ _ o (hb f fn c hx hf hbody) ho hr0 sr fun a' w' G2 hr2 sr2 mv hd => ?_
        have hlen : G.loc.length = σ0.length := sr.len.symm
        have same : ∀ i, i < σ0.length → G2.loc[i]? = G.loc[i]? := fun i hi => by
          obtain ⟨x, hx⟩ : ∃ x, G.loc[i]? = some x := ⟨_, List.getElem?_eq_getElem (by omega)⟩
          rcases mv.ge.loc i x hx with h | h
          · rw [h, hx]
          · exfalso
            have hi2 : i < o.S.σ.length := by rw [sr2.len]; exact (List.getElem?_eq_some_iff.1 h).1
            have hne : o.S.σ[i] ≠ [] := hane _ (List.mem_iff_getElem?.2 ⟨i, by rw [List.getElem?_take, if_pos hi, List.getElem?_eq_getElem hi2]⟩)
            obtain ⟨b, _, _, g1, _⟩ := sr2.blk i _ (List.getElem?_eq_getElem hi2) hne
            rw [h] at g1
            cases g1
        have inloc : ∀ b, some b ∈ G.loc → ∃ i, i < σ0.length ∧ G2.loc[i]? = some (some b) := fun b hm => by
          obtain ⟨i, hi⟩ := List.getElem?_of_mem hm
          have hlt := (List.getElem?_eq_some_iff.1 hi).1
          exact ⟨i, by omega, by rw [same i (by omega)]; exact hi⟩
        have hout : G2.out = G.out := mv.ge.out
        have stab : ∀ a, Stab G2 w' a → Stab G w' a := fun a s => ⟨s.1, fun hm => by
          obtain ⟨i, _, hi⟩ := inloc _ hm
          exact s.2.1 (List.mem_of_getElem? hi), fun e he => by rw [htok] at he; simp at he, by rw [← hout]; exact s.2.2.2⟩
        have hc : ∀ (a : Addr) (u : Value), w'.cell? a = some u → Stab G2 w' a → w'.cell? a = some u ∧ Stab G w' a := fun a u h s => ⟨h, stab a s⟩
        have hnew : ∀ (i b : Nat), σ0.length ≤ i → G2.loc[i]? = some (some b) → ∀ j, Stab G w' ⟨b, j, none⟩ := fun i b hi hg j => ⟨sr2.llt b (List.mem_of_getElem? hg), fun hm => by
          obtain ⟨k, hk, hk2⟩ := inloc _ hm
          have := sr2.nd i k b hg hk2
          omega, fun e he => by rw [htok] at he; simp at he, fun e he hbe => by
          rw [← hout] at he
          exact absurd (List.mem_of_getElem? hg) (by have := (sr2.od e he).2.1; simp only at hbe; rw [hbe] at this; exact this)⟩
        obtain ⟨us2, e2, r2⟩ := results_ok ok hr2 sr2 fn.results.toList vs hvs
        have hpost : a'.defers = [] ∧ ∃ v, (results fn a'.tmps).run cx.P w' = .ok v w' ∧ (VR G w' (fz o.S.σ σ0.length o.S.σ.length (pack vs)) v ∧ SR G ⟨(o.S.σ.take σ0.length).map (·.map dd), []⟩ w' ∧ Mv G w G w') := by
          refine ⟨hd, _, ?_, fz_rel sr2 hc hnew _ (pack_rel r2), ?_, ?_⟩
          · unfold results
            rw [Array.mapM_eq_mapM_toList]
            simp only [Sem.run_bind, Sem.run_map, map_eq_pure_bind, Result.andThen_ok, Sem.run_pure]
            erw [e2]
            simp only [Result.andThen_ok]
          · exact {
              len := by simp only [List.length_map, List.length_take, hlen]; omega
              blk := fun i cs hi hn => by
                simp only [List.getElem?_map, Option.map_eq_some_iff, List.getElem?_take] at hi
                obtain ⟨c2, hi, rfl⟩ := hi
                split at hi
                · rename_i hlt
                  obtain ⟨b, vs2, t, g1, g2, g3, g4⟩ := sr2.blk i c2 hi (fun e => hn (by rw [e]; rfl))
                  exact ⟨b, vs2, t, by rw [← same i hlt]; exact g1, g2, g3.dd hc, g4⟩
                · cases hi
              nd := sr.nd
              tk := sr.tk
              tnd := sr.tnd
              dis := sr.dis
              tlt := fun e he => Nat.lt_of_lt_of_le (sr.tlt e he) mv.size
              llt := fun b hb => Nat.lt_of_lt_of_le (sr.llt b hb) mv.size
              od := fun e he => ⟨Nat.lt_of_lt_of_le (sr.od e he).1 mv.size, (sr.od e he).2⟩
              gl := sr2.gl.conv hc }
          · exact ⟨{ cell := fun a u hcc s => ⟨(mv.ge.cell a u hcc s).1, stab a (mv.ge.cell a u hcc s).2⟩
                     loc := fun i o l => .inl l
                     tok := fun i v b k h => by rw [htok] at h; simp at h
                     out := rfl }, mv.os, mv.tape, mv.output, mv.size, mv.blk, fun b hb => .inl hb, fun e he => .inl ⟨e, he, rfl⟩⟩
        rcases hex with he | he <;> rw [he] <;> exact hpost
      exact ⟨⟨fn, hf, by rw [hbody]; rfl, by simpa using hname⟩, fun e => absurd e hmk, fun _ => ⟨dd_fz _ _ _ _, by simp only [List.length_map, List.length_take]; omega, fun c hc => by
        obtain ⟨c2, h2, rfl⟩ := List.mem_map.1 hc
        exact ⟨by simpa using hane c2 h2, fun x hx => by
          obtain ⟨y, _, rfl⟩ := List.mem_map.1 hx
          exact dd_dd y⟩, main.1⟩⟩

theorem call_sound {cx : Cx} (ok : CxOk cx) (hb : BodiesOk cx) {E : Oracle} (he : CSound cx E) : ∀ n, CSound cx (callN cx E n)
  | 0 => fun f args σ0 r σ1 h => by simp only [callN] at h; cases h
  | n + 1 => fun f args σ0 r σ1 h h0 => by
    simp only [callN] at h
    split at h
    · exact he f args σ0 r σ1 h h0
    · rename_i hx
      have ok' : CxOk (cx.at f) := ⟨ok.ty, ok.mixed⟩
      have cs' : CSound (cx.at f) (callN cx E n) := call_sound ok hb he n
      exact body_sound ok hb (call_sound ok hb he n) (loop_sound ok' cs' n) h h0 (by simpa using hx)

/-! ### The type table, out of the program -/
def kindOf (P : Program) (t : Nat) (size : Nat) (z : Value) : Option TK := match P.underlying t with
  | some (.struct fields) => match z with
    | .agg _ => if (fields.toList.mapM fun f => (P.info? f.type).map fun i => (f.offset, i.size)).isSome = true then some (.struct (fields.toList.map fun f => (f.offset, f.type))) else none
    | _ => none
  | some (.array n e) => match z with
    | .agg _ => some (.arr n e)
    | _ => none
  | some (.slice e) => if z.oneCell' = true ∧ size = 1 then some (.slice e) else none
  | some (.pointer _) => if z.oneCell' = true ∧ size = 1 then some .ptr else none
  | some (.interface _) => if z.oneCell' = true ∧ size = 1 then some .iface else none
  | some _ => if z.oneCell' = true ∧ size = 1 then some .atom else none
  | none => none

def tyOf (P : Program) (t : Nat) : Option TI := (P.info? t).bind fun i => i.zero.bind fun z => (absCells z.cells.toList).bind fun cs => (kindOf P t i.size z).bind fun k =>
  if z.cells.size = i.size then some ⟨i.size, i.bytes, cs, k⟩ else none

theorem tyOf_ok {P : Program} {t : Nat} {ti : TI} (h : tyOf P t = some ti) : ∃ i z, P.info? t = some i ∧ i.size = ti.size ∧ i.bytes = ti.bytes ∧ i.zero = some z ∧ absCells z.cells.toList = some ti.zero ∧ z.cells.size = ti.size ∧ KindOk P t ti z := by
  simp only [tyOf, Option.bind_eq_some_iff] at h
  obtain ⟨i, hi, z, hz, cs, hc, k, hk, h⟩ := h
  split at h
  · rename_i hs
    cases h
    refine ⟨i, z, hi, rfl, rfl, hz, hc, hs, ?_⟩
    unfold kindOf at hk
    unfold KindOk
    split at hk
    · rename_i fields hu
      split at hk
      · rename_i cs'
        split at hk
        · rename_i hp
          cases hk
          obtain ⟨places, hp⟩ := Option.isSome_iff_exists.1 hp
          exact ⟨⟨fields, hu, rfl, places, hp⟩, _, rfl⟩
        · cases hk
      · cases hk
    · rename_i n e hu
      split at hk
      · cases hk; exact ⟨hu, _, rfl⟩
      · cases hk
    · rename_i e hu
      split at hk
      · rename_i h1; cases hk; exact ⟨hu, h1.1, h1.2⟩
      · cases hk
    · rename_i e hu
      split at hk
      · rename_i h1; cases hk; exact ⟨⟨e, hu⟩, h1.1, h1.2⟩
      · cases hk
    · rename_i ms hu
      split at hk
      · rename_i h1; cases hk; exact ⟨⟨ms, hu⟩, h1.1, h1.2⟩
      · cases hk
    · rename_i d h1 h2 h3 h4 h5 hu
      split at hk
      · rename_i h6
        cases hk
        refine ⟨⟨d, hu, ?_⟩, h6.1, h6.2⟩
        cases d <;> first | rfl | (exfalso; first | exact h1 _ rfl | exact h2 _ _ rfl | exact h5 _ rfl)
      · cases hk
    · cases hk
  · cases h

end M
end Go.Proofs.YthclcchnodjjpaaGreatDoor
/- WITHOUT FUEL: what T says in the end, of functions and of loops. -/
set_option linter.unusedVariables false
set_option linter.unusedSimpArgs false
namespace Go.Proofs.YthclcchnodjjpaaGreatDoor
namespace M

def Le (C C' : Oracle) : Prop := ∀ f a σ x, C f a σ = some x → C' f a σ = some x
def LeL (L L' : Loops) : Prop := ∀ b r S o, L b r S = some o → L' b r S = some o

theorem callT_mono {cx : Cx} {C C' : Oracle} (h : Le C C') {S : St} {f : Nat} {args : List AV} {x : AV × St} (hx : callT cx C S f args = some x) : callT cx C' S f args = some x := by
  simp only [callT, Option.bind_eq_some_iff] at hx ⊢
  obtain ⟨fn, hf, o, ho, hx⟩ := hx
  refine ⟨fn, hf, o, ho, ?_⟩
  split at hx
  · cases hx
  · rename_i hn
    rw [if_neg hn]
    obtain ⟨y, hy, rfl⟩ := Option.map_eq_some_iff.1 hx
    exact Option.map_eq_some_iff.2 ⟨y, h _ _ _ _ hy, rfl⟩

theorem mkT_mono {cx : Cx} {C C' : Oracle} (h : Le C C') {S : St} {f : Nat} {args : List AV} {x : AV × St} (hx : mkT cx C S f args = some x) : mkT cx C' S f args = some x := by
  simp only [mkT, Option.bind_eq_some_iff] at hx ⊢
  obtain ⟨fn, hf, o, ho, hx⟩ := hx
  refine ⟨fn, hf, o, ho, ?_⟩
  split at hx
  · rename_i hn
    rw [if_pos hn]
    obtain ⟨y, hy, hx⟩ := Option.bind_eq_some_iff.1 hx
    exact Option.bind_eq_some_iff.2 ⟨y, h _ _ _ _ hy, hx⟩
  · cases hx

theorem opT_mono {cx : Cx} {C C' : Oracle} (h : Le C C') {r : Regs} {S : St} {op : Op} {x : AV × St} (hx : opT cx C r S op = some x) : opT cx C' r S op = some x := by
  cases op
  case call c =>
    simp only [opT, Option.bind_eq_some_iff] at hx ⊢
    obtain ⟨args, ha, hx⟩ := hx
    refine ⟨args, ha, ?_⟩
    cases hc : c.callee with
    | value y =>
      rw [hc] at hx
      simp only at hx ⊢
      cases hm : mkOp cx y with
      | some g => rw [hm] at hx; exact mkT_mono h hx
      | none =>
        rw [hm] at hx
        simp only [Option.bind_eq_some_iff] at hx ⊢
        obtain ⟨f, hf, hx⟩ := hx
        refine ⟨f, hf, ?_⟩
        unfold applyT at hx ⊢
        split at hx
        · split at hx
          · cases hx
          · rename_i hmk
            rw [if_neg hmk]
            exact callT_mono h hx
        · cases hx
    | builtin b => rw [hc] at hx; exact hx
    | invoke a b => rw [hc] at hx; cases hx
  case unOp o t y => cases o <;> exact hx
  case makeFunc fn fs cs => cases fn <;> exact hx
  all_goals exact hx

theorem stepT_mono {cx : Cx} {C C' : Oracle} (h : Le C C') {ops : Array Oper} {o : Oper} {r : Regs} {S : St} {x : Regs × St} (hx : stepT cx C ops o r S = some x) : stepT cx C' ops o r S = some x := by
  simp only [stepT, Option.bind_eq_some_iff] at hx ⊢
  obtain ⟨b, hb, hx⟩ := hx
  refine ⟨b, hb, ?_⟩
  cases b with
  | false => exact hx
  | true =>
    obtain ⟨y, hy, rfl⟩ := Option.map_eq_some_iff.1 hx
    exact Option.map_eq_some_iff.2 ⟨y, opT_mono h hy, rfl⟩

theorem opsT_mono {cx : Cx} {C C' : Oracle} (h : Le C C') {ops : Array Oper} : ∀ (l : List Oper) {r : Regs} {S : St} {x : Regs × St}, opsT cx C ops l r S = some x → opsT cx C' ops l r S = some x
  | [], r, S, x, hx => hx
  | o :: l, r, S, x, hx => by
    simp only [opsT, Option.bind_eq_some_iff] at hx ⊢
    obtain ⟨y, hy, hx⟩ := hx
    exact ⟨y, stepT_mono h hy, opsT_mono h l hx⟩

theorem codeT_mono {cx : Cx} {C C' : Oracle} (h : Le C C') {L L' : Loops} (hL : LeL L L') : ∀ (c : Code) {r : Regs} {S : St} {o : Out}, codeT cx C L c r S = some o → codeT cx C' L' c r S = some o
  | .skip, r, S, o, hx => hx
  | .region id ops false, r, S, o, hx => by
    simp only [codeT, Option.map_eq_some_iff] at hx ⊢
    obtain ⟨y, hy, rfl⟩ := hx
    exact ⟨y, opsT_mono h _ hy, rfl⟩
  | .region id ops true, r, S, o, hx => by
    simp only [codeT, Option.bind_eq_some_iff] at hx ⊢
    obtain ⟨y, hy, hx⟩ := hx
    exact ⟨y, opsT_mono h _ hy, hx⟩
  | .seq a b, r, S, o, hx => by
    simp only [codeT, Option.bind_eq_some_iff] at hx ⊢
    obtain ⟨y, hy, hx⟩ := hx
    refine ⟨y, codeT_mono h hL a hy, ?_⟩
    cases he : y.ex <;> rw [he] at hx <;> simp only at hx ⊢
    · exact codeT_mono h hL b hx
    · exact hx
    · exact hx
  | .cond c a b, r, S, o, hx => by
    simp only [codeT, Option.bind_eq_some_iff] at hx ⊢
    obtain ⟨v, hv, t, ht, hx⟩ := hx
    refine ⟨v, hv, t, ht, ?_⟩
    cases t
    · exact codeT_mono h hL b hx
    · exact codeT_mono h hL a hx
  | .block id b, r, S, o, hx => by
    simp only [codeT, Option.map_eq_some_iff] at hx ⊢
    obtain ⟨y, hy, rfl⟩ := hx
    exact ⟨y, codeT_mono h hL b hy, rfl⟩
  | .exit id, r, S, o, hx => hx
  | .ret, r, S, o, hx => hx
  | .loop b, r, S, o, hx => hL b r S o hx
  | .rangeFunc _ _ _ _, r, S, o, hx => hx
  | .scope _, r, S, o, hx => hx
  | .label _, r, S, o, hx => hx
  | .goto _, r, S, o, hx => hx
  | .refuse _, r, S, o, hx => hx

theorem loopN_mono {cx : Cx} {C C' : Oracle} (h : Le C C') : ∀ (n m : Nat), n ≤ m → LeL (loopN cx C n) (loopN cx C' m)
  | 0, m, _ => fun b r S o hx => by simp only [loopN] at hx; cases hx
  | n + 1, m, hm => fun b r S o hx => by
    obtain ⟨m, rfl⟩ : ∃ k, m = k + 1 := ⟨m - 1, by omega⟩
    have ih := loopN_mono (cx := cx) h n m (by omega)
    simp only [loopN, Option.bind_eq_some_iff] at hx ⊢
    obtain ⟨y, hy, hx⟩ := hx
    refine ⟨y, codeT_mono h ih b hy, ?_⟩
    cases he : y.ex <;> rw [he] at hx <;> simp only at hx ⊢
    · exact ih _ _ _ _ hx
    · exact hx
    · exact hx

theorem bodyT_mono {cx : Cx} {run run' : Code → Regs → St → Option Out} (h : ∀ c r S o, run c r S = some o → run' c r S = some o) {f : Nat} {args : List AV} {σ : List (List AV)} {x : AV × List (List AV)} (hx : bodyT cx run f args σ = some x) : bodyT cx run' f args σ = some x := by
  simp only [bodyT, Option.bind_eq_some_iff] at hx ⊢
  obtain ⟨fn, hf, c, hc, hx⟩ := hx
  refine ⟨fn, hf, c, hc, ?_⟩
  split at hx
  · cases hx
  · rename_i hn
    rw [if_neg hn]
    obtain ⟨o, ho, hx⟩ := Option.bind_eq_some_iff.1 hx
    exact Option.bind_eq_some_iff.2 ⟨o, h _ _ _ _ ho, hx⟩

theorem callN_mono {cx : Cx} {E : Oracle} : ∀ (n m : Nat), n ≤ m → Le (callN cx E n) (callN cx E m)
  | 0, m, _ => fun f a σ x hx => by simp only [callN] at hx; cases hx
  | n + 1, m, hm => fun f a σ x hx => by
    obtain ⟨m, rfl⟩ : ∃ k, m = k + 1 := ⟨m - 1, by omega⟩
    have ih := callN_mono (cx := cx) (E := E) n m (by omega)
    simp only [callN] at hx ⊢
    split at hx
    · rename_i he; rw [if_pos he]; exact hx
    · rename_i he
      rw [if_neg he]
      exact bodyT_mono (fun c r S o ho => codeT_mono ih (loopN_mono ih n m (by omega)) c ho) hx

/-! ### Limits -/
open Classical in
noncomputable def lim {α : Type} (F : Nat → Option α) : Option α := if h : ∃ n x, F n = some x then F h.choose else none

theorem lim_of {α : Type} {F : Nat → Option α} (hm : ∀ n m x, n ≤ m → F n = some x → F m = some x) {n : Nat} {x : α} (h : F n = some x) : lim F = some x := by
  have he : ∃ n x, F n = some x := ⟨n, x, h⟩
  unfold lim
  rw [dif_pos he]
  obtain ⟨y, hy⟩ := he.choose_spec
  rw [hy]
  have h1 := hm _ (max n he.choose) _ (Nat.le_max_left _ _) h
  have h2 := hm _ (max n he.choose) _ (Nat.le_max_right _ _) hy
  rw [h1] at h2
  exact h2.symm ▸ rfl

theorem of_lim {α : Type} {F : Nat → Option α} {x : α} (h : lim F = some x) : ∃ n, F n = some x := by
  unfold lim at h
  split at h
  · exact ⟨_, h⟩
  · cases h

/-- What a function returns, in the end. -/
noncomputable def den (cx : Cx) (E : Oracle) : Oracle := fun f a σ => lim fun n => callN cx E n f a σ
/-- What a loop in function f does, in the end. -/
noncomputable def lup (cx : Cx) (E : Oracle) (f : Nat) : Loops := fun b r S => lim fun n => loopN (cx.at f) (callN cx E n) n b r S

theorem den_of {cx : Cx} {E : Oracle} {n f : Nat} {a : List AV} {σ : List (List AV)} {x : AV × List (List AV)} (h : callN cx E n f a σ = some x) : den cx E f a σ = some x :=
  lim_of (fun n m x hle h => callN_mono n m hle _ _ _ _ h) h
theorem of_den {cx : Cx} {E : Oracle} {f : Nat} {a : List AV} {σ : List (List AV)} {x : AV × List (List AV)} (h : den cx E f a σ = some x) : ∃ n, callN cx E n f a σ = some x := of_lim h
theorem lup_of {cx : Cx} {E : Oracle} {n f : Nat} {b : Code} {r : Regs} {S : St} {o : Out} (h : loopN (cx.at f) (callN cx E n) n b r S = some o) : lup cx E f b r S = some o :=
  lim_of (fun n m x hle h => loopN_mono (callN_mono n m hle) n m hle _ _ _ _ h) h

theorem den_sound {cx : Cx} (ok : CxOk cx) (hb : BodiesOk cx) {E : Oracle} (he : CSound cx E) : CSound cx (den cx E) := fun f a σ r σ1 h h0 => by
  obtain ⟨n, hn⟩ := of_den h
  exact call_sound ok hb he n f a σ r σ1 hn h0

section
variable {cx : Cx} {E : Oracle}

theorem opT_cont {r : Regs} {S : St} {op : Op} {cf : Cx} {x : AV × St} (hx : opT cf (den cx E) r S op = some x) : ∃ n, opT cf (callN cx E n) r S op = some x := by
  cases op
  case call c =>
    simp only [opT, Option.bind_eq_some_iff] at hx ⊢
    obtain ⟨args, ha, hx⟩ := hx
    cases hc : c.callee with
    | value y =>
      rw [hc] at hx
      simp only at hx ⊢
      cases hm : mkOp cf y with
      | some g =>
        rw [hm] at hx
        simp only [mkT, Option.bind_eq_some_iff] at hx
        obtain ⟨fn, hfn, o, ho, hx⟩ := hx
        split at hx
        · rename_i hn
          obtain ⟨z, hz, hx⟩ := Option.bind_eq_some_iff.1 hx
          obtain ⟨n, hn'⟩ := of_den hz
          refine ⟨n, args, ha, ?_⟩
          simp only [mkT, hfn, ho, Option.bind_some, if_pos hn, hn']
          exact hx
        · cases hx
      | none =>
        rw [hm] at hx
        simp only [Option.bind_eq_some_iff] at hx
        obtain ⟨f, hf, hx⟩ := hx
        unfold applyT at hx
        split at hx
        · split at hx
          · cases hx
          · rename_i hmk
            simp only [callT, Option.bind_eq_some_iff] at hx
            obtain ⟨fn, hfn, o, ho, hx⟩ := hx
            split at hx
            · cases hx
            · rename_i hn
              obtain ⟨z, hz, rfl⟩ := Option.map_eq_some_iff.1 hx
              obtain ⟨n, hn'⟩ := of_den hz
              refine ⟨n, args, ha, ?_⟩
              simp only [hf, Option.bind_some, applyT, if_neg hmk, callT, hfn, ho, if_neg hn, hn', Option.map_some]
        · cases hx
    | builtin b => rw [hc] at hx; exact ⟨0, args, ha, hx⟩
    | invoke a b => rw [hc] at hx; cases hx
  case unOp o t y => cases o <;> exact ⟨0, hx⟩
  case makeFunc fn fs cs => cases fn <;> exact ⟨0, hx⟩
  all_goals exact ⟨0, hx⟩

theorem opsT_cont {ops : Array Oper} {cf : Cx} : ∀ (l : List Oper) {r : Regs} {S : St} {x : Regs × St}, opsT cf (den cx E) ops l r S = some x → ∃ n, opsT cf (callN cx E n) ops l r S = some x
  | [], r, S, x, hx => ⟨0, hx⟩
  | o :: l, r, S, x, hx => by
    simp only [opsT, Option.bind_eq_some_iff] at hx
    obtain ⟨y, hy, hx⟩ := hx
    obtain ⟨m, hm⟩ := opsT_cont l hx
    have : ∃ n, stepT cf (callN cx E n) ops o r S = some y := by
      simp only [stepT, Option.bind_eq_some_iff] at hy ⊢
      obtain ⟨b, hb, hy⟩ := hy
      cases b with
      | false => exact ⟨0, false, hb, hy⟩
      | true =>
        obtain ⟨z, hz, rfl⟩ := Option.map_eq_some_iff.1 hy
        obtain ⟨n, hn⟩ := opT_cont hz
        exact ⟨n, true, hb, Option.map_eq_some_iff.2 ⟨z, hn, rfl⟩⟩
    obtain ⟨n, hn⟩ := this
    refine ⟨max n m, ?_⟩
    simp only [opsT, Option.bind_eq_some_iff]
    exact ⟨y, stepT_mono (callN_mono _ _ (Nat.le_max_left _ _)) hn, opsT_mono (callN_mono _ _ (Nat.le_max_right _ _)) l hm⟩

theorem codeT_cont {f : Nat} : ∀ (c : Code) {r : Regs} {S : St} {o : Out}, codeT (cx.at f) (den cx E) (lup cx E f) c r S = some o → ∃ n, codeT (cx.at f) (callN cx E n) (loopN (cx.at f) (callN cx E n) n) c r S = some o
  | .skip, r, S, o, hx => ⟨0, hx⟩
  | .region id ops false, r, S, o, hx => by
    simp only [codeT, Option.map_eq_some_iff] at hx
    obtain ⟨y, hy, rfl⟩ := hx
    obtain ⟨n, hn⟩ := opsT_cont _ hy
    exact ⟨n, by simp only [codeT, hn, Option.map_some]⟩
  | .region id ops true, r, S, o, hx => by
    simp only [codeT, Option.bind_eq_some_iff] at hx
    obtain ⟨y, hy, hx⟩ := hx
    obtain ⟨n, hn⟩ := opsT_cont _ hy
    exact ⟨n, by simp only [codeT, hn, Option.bind_some]; exact hx⟩
  | .seq a b, r, S, o, hx => by
    simp only [codeT, Option.bind_eq_some_iff] at hx
    obtain ⟨y, hy, hx⟩ := hx
    obtain ⟨n, hn⟩ := codeT_cont a hy
    cases he : y.ex with
    | normal =>
      rw [he] at hx
      obtain ⟨m, hm⟩ := codeT_cont b hx
      refine ⟨max n m, ?_⟩
      have l1 := callN_mono (cx := cx) (E := E) _ _ (Nat.le_max_left n m)
      have l2 := callN_mono (cx := cx) (E := E) _ _ (Nat.le_max_right n m)
      simp only [codeT, codeT_mono l1 (loopN_mono l1 _ _ (Nat.le_max_left n m)) a hn, Option.bind_some, he]
      exact codeT_mono l2 (loopN_mono l2 _ _ (Nat.le_max_right n m)) b hm
    | exit i => rw [he] at hx; exact ⟨n, by simp only [codeT, hn, Option.bind_some, he]; exact hx⟩
    | ret => rw [he] at hx; exact ⟨n, by simp only [codeT, hn, Option.bind_some, he]; exact hx⟩
  | .cond c a b, r, S, o, hx => by
    simp only [codeT, Option.bind_eq_some_iff] at hx
    obtain ⟨v, hv, t, ht, hx⟩ := hx
    cases t with
    | false =>
      obtain ⟨n, hn⟩ := codeT_cont b hx
      exact ⟨n, by simp only [codeT, hv, ht, Option.bind_some]; exact hn⟩
    | true =>
      obtain ⟨n, hn⟩ := codeT_cont a hx
      exact ⟨n, by simp only [codeT, hv, ht, Option.bind_some]; exact hn⟩
  | .block id b, r, S, o, hx => by
    simp only [codeT, Option.map_eq_some_iff] at hx
    obtain ⟨y, hy, rfl⟩ := hx
    obtain ⟨n, hn⟩ := codeT_cont b hy
    exact ⟨n, by simp only [codeT, hn, Option.map_some]⟩
  | .exit id, r, S, o, hx => ⟨0, hx⟩
  | .ret, r, S, o, hx => ⟨0, hx⟩
  | .loop b, r, S, o, hx => of_lim hx
  | .rangeFunc _ _ _ _, r, S, o, hx => ⟨0, hx⟩
  | .scope _, r, S, o, hx => ⟨0, hx⟩
  | .label _, r, S, o, hx => ⟨0, hx⟩
  | .goto _, r, S, o, hx => ⟨0, hx⟩
  | .refuse _, r, S, o, hx => ⟨0, hx⟩

/-- One round of a loop. -/
theorem lup_step {f : Nat} {b : Code} {r : Regs} {S : St} {o x : Out} (h : codeT (cx.at f) (den cx E) (lup cx E f) b r S = some o) (hn : o.ex = .normal → lup cx E f b o.r o.S = some x) (hx : o.ex ≠ .normal → o = x) : lup cx E f b r S = some x := by
  obtain ⟨n, h1⟩ := codeT_cont b h
  by_cases he : o.ex = .normal
  · obtain ⟨m, h2⟩ := of_lim (hn he)
    have l1 := callN_mono (cx := cx) (E := E) n (max n m + 1) (by omega)
    have l2 := callN_mono (cx := cx) (E := E) m (max n m + 1) (by omega)
    refine lup_of (n := max n m + 1) ?_
    simp only [loopN, codeT_mono l1 (loopN_mono l1 _ _ (Nat.le_max_left n m)) b h1, Option.bind_some, he]
    exact loopN_mono l2 _ _ (Nat.le_max_right n m) _ _ _ _ h2
  · have l1 := callN_mono (cx := cx) (E := E) n (n + 1) (by omega)
    refine lup_of (n := n + 1) ?_
    simp only [loopN, codeT_mono l1 (loopN_mono l1 _ _ (Nat.le_refl n)) b h1, Option.bind_some]
    have := hx he
    subst this
    cases h3 : o.ex with
    | normal => exact absurd h3 he
    | _ => rfl

/-- A function, by its body. -/
theorem den_body {f : Nat} {args : List AV} {σ : List (List AV)} {x : AV × List (List AV)} (h : bodyT cx (codeT (cx.at f) (den cx E) (lup cx E f)) f args σ = some x) (hx : cx.ext f = false) : den cx E f args σ = some x := by
  simp only [bodyT, Option.bind_eq_some_iff] at h
  obtain ⟨fn, hf, c, hc, h⟩ := h
  split at h
  · cases h
  · rename_i hn
    obtain ⟨o, ho, h⟩ := Option.bind_eq_some_iff.1 h
    obtain ⟨n, h1⟩ := codeT_cont c ho
    refine den_of (n := n + 1) ?_
    simp only [callN, hx, Bool.false_eq_true, if_false, bodyT, hf, hc, Option.bind_some, if_neg hn, h1]
    exact h

theorem den_ext {f : Nat} {args : List AV} {σ : List (List AV)} {x : AV × List (List AV)} (h : E f args σ = some x) (hx : cx.ext f = true) : den cx E f args σ = some x :=
  den_of (n := 1) (by simp only [callN, hx, if_true]; exact h)
end

end M
end Go.Proofs.YthclcchnodjjpaaGreatDoor
/- WALKING IN T: code by its parts, loops by what stays true. -/
set_option linter.unusedVariables false
namespace Go.Proofs.YthclcchnodjjpaaGreatDoor
namespace M

/-! ### Registers -/
def rd (r : Regs) (t : Nat) : AV := r.getD t (.tup [])
theorem ev_tmp (r : Regs) (t : Nat) : ev r (.tmp t) = some (rd r t) := rfl
theorem ev_const (r : Regs) (v : Value) : ev r (.const v) = absV v := rfl
theorem ev_func (r : Regs) (f : Nat) : ev r (.func f) = some (.fn f []) := rfl
theorem res_tmp (cx : Cx) (r : Regs) (S : St) (t : Nat) : resultT cx r S (.tmp t) = some (rd r t) := rfl
theorem res_cell (cx : Cx) (r : Regs) (S : St) (a t : Nat) : resultT cx r S (.cell a t) = loadT cx S t (rd r a) := rfl
theorem rd_zero (v : AV) (r : Regs) : rd (v :: r) 0 = v := rfl
theorem rd_succ (v : AV) (r : Regs) (n : Nat) : rd (v :: r) (n + 1) = rd r n := rfl
theorem rd_nil (n : Nat) : rd [] n = .tup [] := by simp [rd]
theorem rd_same {r : Regs} {i : Nat} (h : i < r.length) (v : AV) : rd (r.set i v) i = v := by simp [rd, List.getD, h]
theorem rd_ne {r : Regs} {i j : Nat} (h : i ≠ j) (v : AV) : rd (r.set i v) j = rd r j := by simp [rd, List.getD, List.getElem?_set_ne h]

theorem cell_int (k : IntKind) (n : Int) : (AV.int k n).isCell = true := rfl
theorem cell_bool (b : Bool) : (AV.bool b).isCell = true := rfl
theorem cell_sl (es : List (List AV)) (o : Own) : (AV.sl es o).isCell = true := rfl
theorem cell_row (b n : Nat) : (AV.row b n).isCell = true := rfl
theorem cell_loc (b n : Nat) : (AV.loc b n).isCell = true := rfl
theorem cell_rp (cs : List AV) : (AV.rp cs).isCell = true := rfl
theorem cell_nilp : AV.nilp.isCell = true := rfl
theorem cell_fn (f : Nat) (cs : List AV) : (AV.fn f cs).isCell = true := rfl
theorem cell_nilf : AV.nilf.isCell = true := rfl
theorem cell_iface (t : Nat) (v : AV) : (AV.iface t v).isCell = true := rfl
theorem cell_nili : AV.nili.isCell = true := rfl
theorem cells_agg (cs : List AV) : (AV.agg cs).cells = cs := rfl
theorem cells_int (k : IntKind) (n : Int) : (AV.int k n).cells = [.int k n] := rfl
theorem cells_bool (b : Bool) : (AV.bool b).cells = [.bool b] := rfl
theorem cells_sl (es : List (List AV)) (o : Own) : (AV.sl es o).cells = [.sl es o] := rfl
theorem cells_rp (cs : List AV) : (AV.rp cs).cells = [.rp cs] := rfl
theorem cells_nilp : AV.nilp.cells = [.nilp] := rfl
theorem cells_iface (t : Nat) (v : AV) : (AV.iface t v).cells = [.iface t v] := rfl
theorem cells_fn (f : Nat) (cs : List AV) : (AV.fn f cs).cells = [.fn f cs] := rfl
theorem cells_loc (b n : Nat) : (AV.loc b n).cells = [.loc b n] := rfl

/-! ### The store -/
def sd (σ : List (List AV)) (b : Nat) : Option (List AV) := σ[b]?
def td (tk : List Nat) (b : Nat) : Option Nat := tk[b]?
theorem load_loc (cx : Cx) (S : St) (t b off : Nat) : loadT cx S t (.loc b off) = (cx.ty t).bind fun ti => (sd S.σ b).bind fun cs => if 0 < ti.size ∧ off + ti.size ≤ cs.length then mk ti ((cs.drop off).take ti.size) else none := rfl
theorem load_rp (cx : Cx) (S : St) (t : Nat) (cs : List AV) : loadT cx S t (.rp cs) = (cx.ty t).bind fun ti => if ti.size ≤ cs.length then mk ti (cs.take ti.size) else none := rfl
theorem store_loc (cx : Cx) (S : St) (t : Nat) (v : AV) (b off : Nat) : storeT cx S t v (.loc b off) = (cx.ty t).bind fun ti => (sd S.σ b).bind fun cs =>
      if v.cells.length = ti.size ∧ 0 < ti.size ∧ off + ti.size ≤ cs.length ∧ v.cells.all AV.isCell = true then some { S with σ := S.σ.set b (splice cs off v.cells) } else none := rfl
theorem append_tok (te : TI) (S : St) (es : List (List AV)) (n v : Nat) (xs : List (List AV)) : appendE te S es (.tok n v) xs =
  if xs = [] then some (.sl es (.tok n v), S)
  else if (es.length + xs.length) * te.bytes ≤ 70368744177664 ∧ 0 < te.bytes ∧ 0 < te.size ∧ (es ++ xs).all (fun c => c.length == te.size) = true then
    if td S.tk n = some v ∧ es.isEmpty = false then some (.sl (es ++ xs) (.tok n (v + 1)), { S with tk := S.tk.set n (v + 1) }) else none
  else none := rfl
theorem append_full (te : TI) (S : St) (es : List (List AV)) (xs : List (List AV)) : appendE te S es .full xs =
  if xs = [] then some (.sl es .full, S)
  else if (es.length + xs.length) * te.bytes ≤ 70368744177664 ∧ 0 < te.bytes ∧ 0 < te.size ∧ (es ++ xs).all (fun c => c.length == te.size) = true then
    some (.sl (es ++ xs) (.tok S.tk.length 0), { S with tk := S.tk ++ [0] })
  else none := rfl
theorem sd_zero (c : List AV) (σ : List (List AV)) : sd (c :: σ) 0 = some c := by simp [sd]
theorem sd_succ (c : List AV) (σ : List (List AV)) (n : Nat) : sd (c :: σ) (n + 1) = sd σ n := by simp [sd]
theorem sd_nil (n : Nat) : sd [] n = none := by simp [sd]
theorem sd_same {σ : List (List AV)} {i : Nat} (h : i < σ.length) (c : List AV) : sd (σ.set i c) i = some c := by simp [sd, h]
theorem sd_ne {σ : List (List AV)} {i j : Nat} (h : i ≠ j) (c : List AV) : sd (σ.set i c) j = sd σ j := by simp [sd, List.getElem?_set_ne h]
theorem sd_last (σ : List (List AV)) (c : List AV) : sd (σ ++ [c]) σ.length = some c := by simp [sd]
theorem sd_app {σ : List (List AV)} {i : Nat} (h : i < σ.length) (c : List (List AV)) : sd (σ ++ c) i = sd σ i := by simp [sd, List.getElem?_append_left h]
theorem td_zero (c : Nat) (σ : List Nat) : td (c :: σ) 0 = some c := by simp [td]
theorem td_succ (c : Nat) (σ : List Nat) (n : Nat) : td (c :: σ) (n + 1) = td σ n := by simp [td]
theorem td_same {σ : List Nat} {i : Nat} (h : i < σ.length) (c : Nat) : td (σ.set i c) i = some c := by simp [td, h]
theorem td_ne {σ : List Nat} {i j : Nat} (h : i ≠ j) (c : Nat) : td (σ.set i c) j = td σ j := by simp [td, List.getElem?_set_ne h]
theorem td_last (σ : List Nat) (c : Nat) : td (σ ++ [c]) σ.length = some c := by simp [td]
theorem td_app {σ : List Nat} {i : Nat} (h : i < σ.length) (c : List Nat) : td (σ ++ c) i = td σ i := by simp [td, List.getElem?_append_left h]

theorem fz_is (σ : List (List AV)) (n : Nat) : ∀ k, ∃ g, fz σ n k = mapLoc g
  | 0 => ⟨_, rfl⟩
  | k + 1 => ⟨_, rfl⟩

/-- The one slice of a function that grows by append, after i of them, with the tokens. -/
def grownO (i : Nat) : Own := if i = 0 then .full else .tok 0 (i - 1)
def grownT (i : Nat) : List Nat := if i = 0 then [] else [i - 1]
theorem append_grow (te : TI) (σ : List (List AV)) (es : List (List AV)) (i : Nat) (x : List AV) (hl : es.length = i) (hroom : (i + 1) * te.bytes ≤ 70368744177664) (hb : 0 < te.bytes) (hs : 0 < te.size) (hz : ∀ c ∈ es, c.length = te.size) (hx : x.length = te.size) :
    appendE te ⟨σ, grownT i⟩ es (grownO i) [x] = some (.sl (es ++ [x]) (grownO (i + 1)), ⟨σ, grownT (i + 1)⟩) := by
  have hc : (es.length + [x].length) * te.bytes ≤ 70368744177664 ∧ 0 < te.bytes ∧ 0 < te.size ∧ (es ++ [x]).all (fun c => c.length == te.size) = true :=
    ⟨by simpa [hl] using hroom, hb, hs, by simp only [List.all_append, Bool.and_eq_true, List.all_eq_true, beq_iff_eq]; exact ⟨hz, by simp [hx]⟩⟩
  unfold appendE grownO grownT
  rw [if_neg (by simp), if_pos hc]
  by_cases h0 : i = 0
  · subst h0; simp
  · have hne : es ≠ [] := fun e => h0 (by rw [← hl, e]; rfl)
    simp [h0, hne]
    omega

section
variable {cx : Cx} {E : Oracle} {f : Nat}

/-- The code runs, and K holds of where it ends. -/
def Wp (cx : Cx) (E : Oracle) (f : Nat) (c : Code) (r : Regs) (S : St) (K : Ex → Regs → St → Prop) : Prop := ∃ o, codeT (cx.at f) (den cx E) (lup cx E f) c r S = some o ∧ K o.ex o.r o.S

def thenK (K : Ex → Regs → St → Prop) (next : Regs → St → Prop) : Ex → Regs → St → Prop
  | .normal, r, S => next r S
  | e, r, S => K e r S

def blockK (id : Nat) (K : Ex → Regs → St → Prop) : Ex → Regs → St → Prop
  | .exit i, r, S => if i = id then K .normal r S else K (.exit i) r S
  | e, r, S => K e r S

variable {K : Ex → Regs → St → Prop} {r : Regs} {S : St}

theorem Wp.mono {c : Code} {K' : Ex → Regs → St → Prop} (h : Wp cx E f c r S K) (hk : ∀ e r S, K e r S → K' e r S) : Wp cx E f c r S K' := by
  obtain ⟨o, h1, h2⟩ := h
  exact ⟨o, h1, hk _ _ _ h2⟩

theorem Wp.skip (h : K .normal r S) : Wp cx E f .skip r S K := ⟨_, rfl, h⟩
theorem Wp.ret (h : K .ret r S) : Wp cx E f .ret r S K := ⟨_, rfl, h⟩
theorem Wp.exit {id : Nat} (h : K (.exit id) r S) : Wp cx E f (.exit id) r S K := ⟨_, rfl, h⟩

theorem Wp.seq {a b : Code} (h : Wp cx E f a r S (thenK K fun r S => Wp cx E f b r S K)) : Wp cx E f (.seq a b) r S K := by
  obtain ⟨o, h1, h2⟩ := h
  cases he : o.ex with
  | normal =>
    rw [he] at h2
    obtain ⟨p, h3, h4⟩ := h2
    exact ⟨p, by simp only [codeT, h1, Option.bind_some, he]; exact h3, h4⟩
  | exit i => rw [he] at h2; exact ⟨o, by simp only [codeT, h1, Option.bind_some, he], by rw [he]; exact h2⟩
  | ret => rw [he] at h2; exact ⟨o, by simp only [codeT, h1, Option.bind_some, he], by rw [he]; exact h2⟩

theorem Wp.block {id : Nat} {b : Code} (h : Wp cx E f b r S (blockK id K)) : Wp cx E f (.block id b) r S K := by
  obtain ⟨o, h1, h2⟩ := h
  refine ⟨match o.ex with | .exit i => if i = id then ⟨.normal, o.r, o.S⟩ else o | _ => o, by simp only [codeT, h1, Option.map_some]; rfl, ?_⟩
  cases he : o.ex with
  | normal => rw [he] at h2; simp only [he]; exact h2
  | exit i =>
    rw [he] at h2
    simp only
    simp only [blockK] at h2
    split at h2
    · rename_i hi; rw [if_pos hi]; exact h2
    · rename_i hi; rw [if_neg hi, he]; exact h2
  | ret => rw [he] at h2; simp only [he]; exact h2

theorem Wp.cond {c : Operand} {a b : Code} {t : Bool} (hc : ev r c = some (.bool t)) (h : if t = true then Wp cx E f a r S K else Wp cx E f b r S K) : Wp cx E f (.cond c a b) r S K := by
  cases t with
  | true => obtain ⟨o, h1, h2⟩ := h; exact ⟨o, by simp only [codeT, hc, Option.bind_some, asBoolT, if_true]; exact h1, h2⟩
  | false => obtain ⟨o, h1, h2⟩ := h; exact ⟨o, by simp only [codeT, hc, Option.bind_some, asBoolT, Bool.false_eq_true, if_false]; exact h1, h2⟩

theorem Wp.region {id : Nat} {ops : Array Oper} {x : Regs × St} (h : opsT (cx.at f) (den cx E) ops ops.toList r S = some x) (hk : K .normal x.1 x.2) : Wp cx E f (.region id ops false) r S K :=
  ⟨⟨.normal, x.1, x.2⟩, by simp only [codeT, h, Option.map_some], hk⟩

theorem Wp.any {id : Nat} {ops : Array Oper} {x : Regs × St} (h : opsT (cx.at f) (den cx E) ops ops.toList r S = some x) (ha : apartT x.1 ops (cx.lt f id) = true) (hk : K .normal x.1 x.2) : Wp cx E f (.region id ops true) r S K :=
  ⟨⟨.normal, x.1, x.2⟩, by simp only [codeT, h, Option.bind_some]; exact if_pos ha, hk⟩

theorem Wp.seqR {id : Nat} {ops : Array Oper} {b : Code} {x : Regs × St} (h : opsT (cx.at f) (den cx E) ops ops.toList r S = some x) (hk : Wp cx E f b x.1 x.2 K) : Wp cx E f (.seq (.region id ops false) b) r S K := .seq (.region h hk)
theorem Wp.seqA {id : Nat} {ops : Array Oper} {b : Code} {x : Regs × St} (h : opsT (cx.at f) (den cx E) ops ops.toList r S = some x) (ha : apartT x.1 ops (cx.lt f id) = true) (hk : Wp cx E f b x.1 x.2 K) : Wp cx E f (.seq (.region id ops true) b) r S K := .seq (.any h ha hk)
theorem Wp.seqS {a b c : Code} (h : Wp cx E f (.seq a (.seq b c)) r S K) : Wp cx E f (.seq (.seq a b) c) r S K := by
  obtain ⟨o, h1, h2⟩ := h
  refine ⟨o, ?_, h2⟩
  simp only [codeT, Option.bind_eq_some_iff] at h1 ⊢
  obtain ⟨p, h3, h4⟩ := h1
  cases he : p.ex with
  | normal =>
    rw [he] at h4
    obtain ⟨q, h5, h6⟩ := Option.bind_eq_some_iff.1 h4
    exact ⟨q, ⟨p, h3, by rw [he]; exact h5⟩, h6⟩
  | exit i => rw [he] at h4; cases h4; exact ⟨_, ⟨_, h3, by rw [he]⟩, by rw [he]⟩
  | ret => rw [he] at h4; cases h4; exact ⟨_, ⟨_, h3, by rw [he]⟩, by rw [he]⟩
theorem Wp.seqK {b : Code} (h : Wp cx E f b r S K) : Wp cx E f (.seq .skip b) r S K := .seq (.skip h)
theorem Wp.seqT {b : Code} (h : K .ret r S) : Wp cx E f (.seq .ret b) r S K := .seq (.ret h)
theorem Wp.seqE {id : Nat} {b : Code} (h : K (.exit id) r S) : Wp cx E f (.seq (.exit id) b) r S K := .seq (.exit h)
theorem Wp.seqC {c : Operand} {a b d : Code} {t : Bool} (hc : ev r c = some (.bool t)) (h : if t = true then Wp cx E f (.seq a d) r S K else Wp cx E f (.seq b d) r S K) : Wp cx E f (.seq (.cond c a b) d) r S K := by
  refine .seq (.cond hc ?_)
  have back : ∀ {a : Code}, Wp cx E f (.seq a d) r S K → Wp cx E f a r S (thenK K fun r S => Wp cx E f d r S K) := by
    rintro a ⟨o, h1, h2⟩
    simp only [codeT, Option.bind_eq_some_iff] at h1
    obtain ⟨p, h3, h4⟩ := h1
    refine ⟨p, h3, ?_⟩
    cases he : p.ex with
    | normal => rw [he] at h4; exact ⟨o, h4, h2⟩
    | exit i => rw [he] at h4; cases h4; rw [he] at h2; exact h2
    | ret => rw [he] at h4; cases h4; rw [he] at h2; exact h2
  cases t with
  | true => exact back h
  | false => exact back h
theorem Wp.seqB {id : Nat} {b c : Code} (h : Wp cx E f b r S (blockK id (thenK K fun r S => Wp cx E f c r S K))) : Wp cx E f (.seq (.block id b) c) r S K := .seq (.block h)

/-- A loop: with k to go, what stays true leads to less to go, or out. -/
theorem Wp.loop {b : Code} (Inv : Nat → Regs → St → Prop) (k : Nat) (h0 : Inv k r S) (h : ∀ k r S, Inv k r S → Wp cx E f b r S (thenK K fun r S => ∃ k', k' < k ∧ Inv k' r S)) : Wp cx E f (.loop b) r S K := by
  have key : ∀ n k r S, k = n → Inv k r S → ∃ o, lup cx E f b r S = some o ∧ K o.ex o.r o.S := by
    intro n
    induction n using Nat.strongRecOn with
    | _ n ih =>
      intro k r S hk hi
      obtain ⟨o, h1, h2⟩ := h k r S hi
      cases he : o.ex with
      | normal =>
        rw [he] at h2
        obtain ⟨k', hlt, hi'⟩ := h2
        obtain ⟨p, h3, h4⟩ := ih k' (by omega) k' o.r o.S rfl hi'
        exact ⟨p, lup_step h1 (fun _ => h3) (fun hn => absurd he hn), h4⟩
      | exit i => rw [he] at h2; exact ⟨o, lup_step h1 (fun e => by rw [he] at e; cases e) (fun _ => rfl), by rw [he]; exact h2⟩
      | ret => rw [he] at h2; exact ⟨o, lup_step h1 (fun e => by rw [he] at e; cases e) (fun _ => rfl), by rw [he]; exact h2⟩
  exact key k k r S rfl h0

/-- A function, walked. -/
theorem den_walk {fn : Func} {c : Code} {args : List AV} {σ : List (List AV)} {x : AV × List (List AV)} (hx : cx.ext f = false) (hm : cx.mkf f = false) (hf : cx.P.funcs[f]? = some fn) (hc : fn.body = some c) (hn : (fn.name == "runtime.NumGoroutine") = false)
    (h : Wp cx E f c (args ++ List.replicate (fn.ntmps - args.length) (.tup [])) ⟨σ, []⟩ fun e r S => (match e with | .exit _ => False | _ => True) ∧ ∃ vs, resultsT cx r S fn.results.toList = some vs ∧ ((S.σ.take σ.length).any List.isEmpty || decide (S.σ.length < σ.length)) = false ∧
      x = (fz S.σ σ.length S.σ.length (pack vs), (S.σ.take σ.length).map (·.map dd))) : den cx E f args σ = some x := by
  obtain ⟨o, h1, h2, vs, h3, h4, h5⟩ := h
  refine den_body ?_ hx
  simp only [bodyT, hf, hc, Option.bind_some, hn, Bool.false_eq_true, if_false, h1]
  cases he : o.ex with
  | exit i => rw [he] at h2; exact h2.elim
  | normal => simp only [h3, Option.bind_some, hm, h4, Bool.false_eq_true, if_false, h5]
  | ret => simp only [h3, Option.bind_some, hm, h4, Bool.false_eq_true, if_false, h5]

/-- A function that makes a place, walked. -/
theorem den_mk {fn : Func} {c : Code} {args : List AV} {cs : List AV} (hx : cx.ext f = false) (hm : cx.mkf f = true) (hf : cx.P.funcs[f]? = some fn) (hc : fn.body = some c) (hn : (fn.name == "runtime.NumGoroutine") = false)
    (h : Wp cx E f c (args ++ List.replicate (fn.ntmps - args.length) (.tup [])) ⟨[], []⟩ fun e r S => (match e with | .exit _ => False | _ => True) ∧ ∃ b c0, resultsT cx r S fn.results.toList = some [.loc b 0] ∧ sd S.σ b = some c0 ∧ c0 ≠ [] ∧ cs = c0.map dd) :
    den cx E f args [] = some (.loc 0 0, [cs]) := by
  obtain ⟨o, h1, h2, b, c0, h3, h4, h5, h6⟩ := h
  refine den_body ?_ hx
  have h4' : o.S.σ[b]? = some c0 := h4
  have h5' : ¬ c0.isEmpty = true := by simpa using h5
  simp only [bodyT, hf, hc, Option.bind_some, hn, Bool.false_eq_true, if_false, h1]
  cases he : o.ex with
  | exit i => rw [he] at h2; exact h2.elim
  | normal => simp only [h3, Option.bind_some, hm, if_true, h4', if_neg h5', h6]
  | ret => simp only [h3, Option.bind_some, hm, if_true, h4', if_neg h5', h6]
end

end M
end Go.Proofs.YthclcchnodjjpaaGreatDoor
/- CALLS AS SIMP FACTS: a call of a function whose answer is known. -/
set_option linter.unusedVariables false
namespace Go.Proofs.YthclcchnodjjpaaGreatDoor
namespace M

/-- A value without places that a function may be handed as it is. -/
def Plain (v : AV) : Prop := dd v = v ∧ (∀ b o, v ≠ .loc b o) ∧ ∀ f cs, v ≠ .fn f cs

theorem handOne_plain {cx : Cx} {t : Nat} {refs : List Nat} {σ : List (List AV)} {v : AV} (h : Plain v) : handOne cx t refs σ v = some (v, refs, σ) := by
  obtain ⟨h1, h2, h3⟩ := h
  unfold handOne
  split
  · exact absurd rfl (h2 _ _)
  · exact absurd rfl (h3 _ _)
  · rw [h1]

theorem hand_plain {cx : Cx} : ∀ (args : List AV) (ts refs : List Nat) (σ : List (List AV)), (∀ a ∈ args, Plain a) → hand cx ts refs σ args = some ⟨args, refs, σ⟩
  | [], ts, refs, σ, _ => rfl
  | v :: args, ts, refs, σ, h => by
    simp only [hand, handOne_plain (h v (by simp)), Option.bind_some, hand_plain args ts.tail refs σ (fun a ha => h a (by simp [ha])), Option.map_some]

theorem call_of {cx cf : Cx} {E : Oracle} {f : Nat} {fn : Func} {args : List AV} {v : AV} (hP : cf.P.funcs[f]? = some fn) (ha : ∀ a ∈ args, Plain a) (h : den cx E f args [] = some (v, [])) (S : St) : callT cf (den cx E) S f args = some (v, S) := by
  simp [callT, hP, hand_plain args _ [] S.σ ha, h, putBack]

/-- The first argument by reference. -/
theorem call_ref {cx cf : Cx} {E : Oracle} {f : Nat} {fn : Func} {b : Nat} {args : List AV} {cs cs' : List AV} {v : AV} {t : Nat} {ts : List Nat} (hP : cf.P.funcs[f]? = some fn) (ht : fn.params.toList = t :: ts) (h1 : cf.tt t = true) (h2 : cf.rf t = true)
    (ha : ∀ a ∈ args, Plain a) (hcs : cs.map dd = cs) (hne : cs ≠ []) (h : den cx E f (.loc 0 0 :: args) [cs] = some (v, [cs'])) (S : St) (hS : sd S.σ b = some cs) :
    callT cf (den cx E) S f (.loc b 0 :: args) = some (v, { S with σ := S.σ.set b cs' }) := by
  have hS' : S.σ[b]? = some cs := hS
  have hne' : cs.isEmpty = false := by simpa using hne
  have ho : hand cf fn.params.toList [] S.σ (.loc b 0 :: args) = some ⟨.loc 0 0 :: args, [b], S.σ⟩ := by
    simp only [hand, ht, List.headD_cons, List.tail_cons, handOne, h1, h2, Bool.true_eq_false, if_false, if_true]
    simp [hand_plain args ts [b] S.σ ha]
  simp only [callT, hP, Option.bind_some, ho, List.any_cons, List.any_nil, hS', Option.getD_some, hne', Bool.or_false, Bool.false_eq_true, if_false, List.map_cons, List.map_nil, hcs, h, Option.map_some, putBack]
/-- No place, and no function. -/
def AV.noPl : AV → Bool
  | .loc _ _ | .fn _ _ => false
  | _ => true
theorem handOne_noPl {cx : Cx} {t : Nat} {refs : List Nat} {σ : List (List AV)} {v : AV} (h : v.noPl = true) : handOne cx t refs σ v = some (dd v, refs, σ) := by
  cases v <;> first | rfl | (simp [AV.noPl] at h)
theorem hand_noPl {cx : Cx} : ∀ (args : List AV) (ts refs : List Nat) (σ : List (List AV)), (args.all AV.noPl) = true → hand cx ts refs σ args = some ⟨args.map dd, refs, σ⟩
  | [], ts, refs, σ, _ => rfl
  | v :: args, ts, refs, σ, h => by
    simp only [List.all_cons, Bool.and_eq_true] at h
    simp only [hand, handOne_noPl h.1, Option.bind_some, hand_noPl args ts.tail refs σ h.2, Option.map_some, List.map_cons]

/-- A call whose arguments are the ones that are known, but for the room behind slices. -/
theorem call_up {cx cf : Cx} {E : Oracle} {f : Nat} {fn : Func} {args args' : List AV} {v : AV} (hP : cf.P.funcs[f]? = some fn) (hn : (args'.all AV.noPl) = true) (hd : args'.map dd = args) (h : den cx E f args [] = some (v, [])) (S : St) : callT cf (den cx E) S f args' = some (v, S) := by
  subst hd
  simp [callT, hP, hand_noPl args' _ [] S.σ hn, h, putBack]

/-- The first argument by reference. -/
theorem call_upD {cx cf : Cx} {E : Oracle} {f : Nat} {fn : Func} {b : Nat} {args args' : List AV} {cs cs' : List AV} {v : AV} {t : Nat} {ts : List Nat} (hP : cf.P.funcs[f]? = some fn) (ht : fn.params.toList = t :: ts) (h1 : cf.tt t = true) (h2 : cf.rf t = true)
    (hn : (args'.all AV.noPl) = true) (hd : args'.map dd = args) (hcs : cs.map dd = cs) (hne : cs ≠ []) (h : den cx E f (.loc 0 0 :: args) [cs] = some (v, [cs'])) (S : St) (hS : sd S.σ b = some cs) :
    callT cf (den cx E) S f (.loc b 0 :: args') = some (v, { S with σ := S.σ.set b cs' }) := by
  subst hd
  have hS' : S.σ[b]? = some cs := hS
  have hne' : cs.isEmpty = false := by simpa using hne
  have ho : hand cf fn.params.toList [] S.σ (.loc b 0 :: args') = some ⟨.loc 0 0 :: args'.map dd, [b], S.σ⟩ := by
    simp only [hand, ht, List.headD_cons, List.tail_cons, handOne, h1, h2, Bool.true_eq_false, if_false, if_true]
    simp [hand_noPl args' ts [b] S.σ hn]
  simp only [callT, hP, Option.bind_some, ho, List.any_cons, List.any_nil, hS', Option.getD_some, hne', Bool.or_false, Bool.false_eq_true, if_false, List.map_cons, List.map_nil, hcs, h, Option.map_some, putBack]
end M
end Go.Proofs.YthclcchnodjjpaaGreatDoor
