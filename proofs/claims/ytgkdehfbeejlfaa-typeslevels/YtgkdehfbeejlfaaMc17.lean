/- SOUNDNESS 16: code, loops, bodies, calls all the way down. -/
import Derived.Test.YtgkdehfbeejlfaaMc16
import Derived.LoopN
set_option linter.unusedVariables false
set_option linter.unusedSimpArgs false
namespace Go.Proofs.Ytgkdehfbeejlfaa
namespace M

/-- The regions without an order of a code pass the check. -/
def codeOk (cx : Cx) : Code → Bool
  | .region id ops true => regOk cx ops (cx.lz id)
  | .seq a b => codeOk cx a && codeOk cx b
  | .cond _ a b => codeOk cx a && codeOk cx b
  | .block _ b => codeOk cx b
  | .loop b => codeOk cx b
  | _ => true

def Ex.out : Ex → Exit
  | .normal => .normal
  | .exit i => .exit i
  | .ret => .ret

/-- What a run of T says of a code's run. -/
def Says (cx : Cx) (c : Code) (r : Regs) (S : St) (o : Out) : Prop := ∀ ⦃Q : Exit → Act → World → Prop⦄ ⦃G : Gh⦄ ⦃w : World⦄ ⦃a : Act⦄, VRs G w r a.tmps.toList → SR G S w →
  (∀ a' w' G', VRs G' w' o.r a'.tmps.toList → SR G' o.S w' → Mv G w G' w' → a'.defers = a.defers → Q o.ex.out a' w') → c.wp cx.P Q a w

def LSound (cx : Cx) (L : Loops) : Prop := ∀ (b : Code) (r : Regs) (S : St) (o : Out), codeOk cx b = true → L b r S = some o → Says cx (.loop b) r S o

theorem code_wp {cx : Cx} (ok : CxOk cx) {C : Oracle} (cs : CSound cx C) {L : Loops} (ls : LSound cx L) : ∀ (c : Code) (r : Regs) (S : St) (o : Out), codeOk cx c = true → codeT cx C L c r S = some o → Says cx c r S o
  | .skip, r, S, o, hc, h => by
    intro Q G w a hr sr hQ
    simp only [codeT, Option.some.injEq] at h
    subst h
    exact wp_skip (hQ a w G hr sr (Mv.refl G w) rfl)
  | .region id ops false, r, S, o, hc, h => by
    intro Q G w a hr sr hQ
    simp only [codeT, Option.map_eq_some_iff] at h
    obtain ⟨⟨r1, S1⟩, h1, rfl⟩ := h
    exact region_wp ok cs hr sr h1 hQ
  | .region id ops true, r, S, o, hc, h => by
    intro Q G w a hr sr hQ
    simp only [codeT, Option.bind_eq_some_iff] at h
    obtain ⟨⟨r1, S1⟩, h1, h⟩ := h
    split at h
    · rename_i hap
      cases h
      exact region_any_wp ok cs hc hr sr h1 hap hQ
    · cases h
  | .seq x y, r, S, o, hc, h => by
    intro Q G w a hr sr hQ
    simp only [codeOk, Bool.and_eq_true] at hc
    simp only [codeT, Option.bind_eq_some_iff] at h
    obtain ⟨o1, h1, h⟩ := h
    refine wp_seq (code_wp ok cs ls x r S o1 hc.1 h1 hr sr fun a1 w1 G1 p1 p2 p3 p4 => ?_)
    cases he : o1.ex with
    | normal =>
      rw [he] at h
      exact code_wp ok cs ls y o1.r o1.S o hc.2 h p1 p2 fun a2 w2 G2 q1 q2 q3 q4 => hQ a2 w2 G2 q1 q2 (p3.trans q3) (q4.trans p4)
    | exit i =>
      rw [he] at h
      cases h
      have := hQ a1 w1 G1 p1 p2 p3 p4
      rw [he] at this
      exact this
    | ret =>
      rw [he] at h
      cases h
      have := hQ a1 w1 G1 p1 p2 p3 p4
      rw [he] at this
      exact this
  | .cond c x y, r, S, o, hc, h => by
    intro Q G w a hr sr hQ
    simp only [codeOk, Bool.and_eq_true] at hc
    simp only [codeT, Option.bind_eq_some_iff] at h
    obtain ⟨v, hv, t, ht, h⟩ := h
    have : v = .bool t := by unfold asBoolT at ht; split at ht <;> cases ht; rfl
    subst this
    have hb := ev_rel hr hv
    generalize hcc : a.eval c = cc at hb
    cases hb
    refine wp_cond hcc ?_
    cases t
    · exact code_wp ok cs ls y r S o hc.2 h hr sr hQ
    · exact code_wp ok cs ls x r S o hc.1 h hr sr hQ
  | .block id b, r, S, o, hc, h => by
    intro Q G w a hr sr hQ
    simp only [codeT, Option.map_eq_some_iff] at h
    obtain ⟨o1, h1, h⟩ := h
    refine wp_block (code_wp ok cs ls b r S o1 hc h1 hr sr fun a1 w1 G1 p1 p2 p3 p4 => ?_)
    cases he : o1.ex with
    | normal =>
      rw [he] at h
      subst h
      have := hQ a1 w1 G1 p1 p2 p3 p4
      rw [he] at this
      exact this
    | exit i =>
      rw [he] at h
      simp only at h
      simp only [Ex.out, Exit.inBlock]
      split at h
      · rename_i hi
        subst h
        rw [if_pos hi]
        exact hQ a1 w1 G1 p1 p2 p3 p4
      · rename_i hi
        subst h
        rw [if_neg hi]
        have := hQ a1 w1 G1 p1 p2 p3 p4
        rw [he] at this
        exact this
    | ret =>
      rw [he] at h
      subst h
      have := hQ a1 w1 G1 p1 p2 p3 p4
      rw [he] at this
      exact this
  | .exit id, r, S, o, hc, h => by
    intro Q G w a hr sr hQ
    simp only [codeT, Option.some.injEq] at h
    subst h
    exact wp_exit (hQ a w G hr sr (Mv.refl G w) rfl)
  | .ret, r, S, o, hc, h => by
    intro Q G w a hr sr hQ
    simp only [codeT, Option.some.injEq] at h
    subst h
    exact wp_ret (hQ a w G hr sr (Mv.refl G w) rfl)
  | .loop b, r, S, o, hc, h => ls b r S o hc h
  | .rangeFunc _ _ _ _, r, S, o, hc, h => by simp only [codeT] at h; cases h
  | .scope _, r, S, o, hc, h => by simp only [codeT] at h; cases h
  | .label _, r, S, o, hc, h => by simp only [codeT] at h; cases h
  | .goto _, r, S, o, hc, h => by simp only [codeT] at h; cases h
  | .refuse _, r, S, o, hc, h => by simp only [codeT] at h; cases h

theorem rounds_of {cx : Cx} (ok : CxOk cx) {C : Oracle} (cs : CSound cx C) : ∀ (n : Nat) (b : Code) (r : Regs) (S : St) (o : Out), codeOk cx b = true → loopN cx C n b r S = some o → ∀ ⦃Q : Exit → Act → World → Prop⦄ ⦃G : Gh⦄ ⦃w : World⦄ ⦃a : Act⦄, VRs G w r a.tmps.toList → SR G S w →
    (∀ a' w' G', VRs G' w' o.r a'.tmps.toList → SR G' o.S w' → Mv G w G' w' → a'.defers = a.defers → Q o.ex.out a' w') → Code.rounds cx.P b Q n a w
  | 0, b, r, S, o, hc, h => by simp only [loopN] at h; cases h
  | n + 1, b, r, S, o, hc, h => by
    intro Q G w a hr sr hQ
    simp only [loopN, Option.bind_eq_some_iff] at h
    obtain ⟨o1, h1, h⟩ := h
    rw [rounds_succ]
    refine code_wp ok cs (L := loopN cx C n) (fun b r S o hc h _ _ _ _ hr sr hQ => wp_loop_rounds n (rounds_of ok cs n b r S o hc h hr sr hQ)) b r S o1 hc h1 hr sr fun a1 w1 G1 p1 p2 p3 p4 => ?_
    cases he : o1.ex with
    | normal =>
      rw [he] at h
      exact rounds_of ok cs n b o1.r o1.S o hc h p1 p2 fun a2 w2 G2 q1 q2 q3 q4 => hQ a2 w2 G2 q1 q2 (p3.trans q3) (q4.trans p4)
    | exit i =>
      rw [he] at h
      cases h
      have := hQ a1 w1 G1 p1 p2 p3 p4
      rw [he] at this
      exact this
    | ret =>
      rw [he] at h
      cases h
      have := hQ a1 w1 G1 p1 p2 p3 p4
      rw [he] at this
      exact this

theorem loop_sound {cx : Cx} (ok : CxOk cx) {C : Oracle} (cs : CSound cx C) (n : Nat) : LSound cx (loopN cx C n) := fun b r S o hc h _ _ _ _ hr sr hQ => wp_loop_rounds n (rounds_of ok cs n b r S o hc h hr sr hQ)

/-! ### Bodies -/
theorem results_ok {cx : Cx} (ok : CxOk cx) {G : Gh} {w : World} {r : Regs} {S : St} {tmps : Array Value} (hr : VRs G w r tmps.toList) (sr : SR G S w) : ∀ (l : List ResultVar) (vs : List AV), resultsT cx r S l = some vs →
    ∃ us, (l.mapM (fun | ResultVar.tmp t => (pure (tmps.getD t Go.undef) : Sem Value) | ResultVar.cell a t => do loadVar t (← asAddr (tmps.getD a Go.undef)))).run cx.P w = .ok us w ∧ VRs G w vs us
  | [], vs, h => by cases h; exact ⟨[], by simp, VRs.nil G w⟩
  | x :: l, vs, h => by
    simp only [resultsT, Option.bind_eq_some_iff, Option.map_eq_some_iff] at h
    obtain ⟨v, hv, vs', h1, rfl⟩ := h
    obtain ⟨us, e1, r1⟩ := results_ok ok hr sr l vs' h1
    cases x with
    | tmp t =>
      cases hv
      exact ⟨_, by simp only [List.mapM_cons, Sem.run_bind, Sem.run_pure, Result.andThen_ok, e1], .cons (getD_rel hr t) r1⟩
    | cell p t =>
      obtain ⟨u, e2, r2⟩ := loadT_ok ok sr (getD_rel hr p) hv
      have hp := getD_rel hr p
      refine ⟨u :: us, ?_, .cons r2 r1⟩
      have hx : ∃ q, tmps.getD p Go.undef = .pointer (some q) := by
        simp only [resultT] at hv
        unfold loadT at hv
        split at hv
        · rename_i heq; rw [heq] at hp; generalize tmps.getD p Go.undef = x at hp; cases hp; exact ⟨_, rfl⟩
        · rename_i heq; rw [heq] at hp; generalize tmps.getD p Go.undef = x at hp; cases hp; exact ⟨_, rfl⟩
        · cases hv
      obtain ⟨q, hq⟩ := hx
      simp only [hq, Instr.loadAt, Instr.sureAddr, Sem.run_bind, Sem.run_pure, Result.andThen_ok] at e2
      rw [List.mapM_cons]
      have e3 : (do loadVar t (← asAddr (tmps.getD p Go.undef)) : Sem Value).run cx.P w = .ok u w := by
        simp only [hq, asAddr, Sem.run_bind, Sem.run_pure, Result.andThen_ok, e2]
      simp only [Sem.run_bind] at e3 ⊢
      rw [e3]
      simp only [Result.andThen_ok, Sem.run_bind]
      rw [e1]
      simp only [Result.andThen_ok, Sem.run_pure]

theorem pack_rel {G : Gh} {w : World} {vs : List AV} {us : List Value} (h : VRs G w vs us) : VR G w (pack vs) (if h : us.toArray.size = 1 then us.toArray[0] else .tuple us.toArray) := by
  cases vs with
  | nil =>
    have : us = [] := List.eq_nil_of_length_eq_zero (by have := h.1; simpa using this.symm)
    subst this
    exact VR.tup_of (vs := #[]) (VRs.nil G w)
  | cons v vs =>
    obtain ⟨u, us, rfl, h1, h2⟩ := h.uncons
    cases vs with
    | nil =>
      have : us = [] := List.eq_nil_of_length_eq_zero (by have := h2.1; simpa using this.symm)
      subst this
      simpa [pack] using h1
    | cons v' vs =>
      obtain ⟨u', us, rfl, h3, h4⟩ := h2.uncons
      have : ¬ (u :: u' :: us).toArray.size = 1 := by simp
      rw [dif_neg this]
      exact VR.tup_of (vs := (u :: u' :: us).toArray) (.cons h1 (.cons h3 h4))

/-- The program's functions pass the check. -/
def BodiesOk (cx : Cx) : Prop := ∀ (f : Nat) (fn : Func) (c : Code), cx.ext f = false → cx.P.funcs[f]? = some fn → fn.body = some c → codeOk (cx.at f) c = true

theorem fz_rel {G G' : Gh} {S : St} {w : World} (sr : SR G S w) {n : Nat} (hc : ∀ (a : Addr) (u : Value), w.cell? a = some u → Stab G w a → w.cell? a = some u ∧ Stab G' w a) (hnew : ∀ (i b : Nat), n ≤ i → G.loc[i]? = some (some b) → ∀ j, Stab G' w ⟨b, j, none⟩) :
    ∀ (k : Nat) {v : AV} {u : Value}, VR G w v u → VR G' w (fz S.σ n k v) u
  | 0, v, u, h => h.dd hc
  | k + 1, v, u, h => by
    refine VR.weaken hc _ h fun b off x hx => ?_
    by_cases hb : b < n
    · simp only [if_pos hb]; exact .undef
    · simp only [if_neg hb]
      split
      · rename_i cs hcs
        cases hx with
        | @loc _ _ a o hl hv =>
          by_cases hne : cs = []
          · subst hne
            simp only [List.drop_nil, List.map_nil]
            exact .rp (fun _ => Go.undef) (fun j hj => by simp at hj) (fun j hj => by simp at hj)
          · obtain ⟨blk, vs, t, g1, g2, g3, g4⟩ := sr.blk b cs hcs hne
            rw [g1] at hl
            cases hl
            have ha := hv blk rfl
            subst ha
            have hlen : cs.length = vs.size := by have := g3.1; simpa using this
            refine .rp (fun j => vs.toList.getD (off + j) Go.undef) (fun j hj => ?_) (fun j hj => ?_)
            · simp only [List.length_map, List.length_drop] at hj
              have hlt : off + j < vs.toList.length := by simp; omega
              have hg : vs.toList.getD (off + j) Go.undef = vs.toList[off + j] := by simp only [List.getD, List.getElem?_eq_getElem hlt, Option.getD_some]
              have hadd : (⟨blk, off, none⟩ : Addr).add j = ⟨blk, off + j, none⟩ := by unfold Addr.add; split <;> simp_all
              rw [hadd, hg]
              refine ⟨?_, hnew b blk (by omega) g1 _, g4 _ (List.getElem_mem hlt)⟩
              rw [cell_of_row _ _ _ vs t (0, 0) g2]
              simp
            · simp only [List.length_map, List.length_drop] at hj
              have hlt : off + j < vs.toList.length := by simp; omega
              have hg : vs.toList.getD (off + j) Go.undef = vs.toList[off + j] := by simp only [List.getD, List.getElem?_eq_getElem hlt, Option.getD_some]
              simp only [hg, List.getElem_map, List.getElem_drop]
              exact fz_rel sr hc hnew k (g3.2 (off + j) (by omega) hlt)
      · exact .undef

theorem body_sound {cx : Cx} (ok : CxOk cx) (hb : BodiesOk cx) {C : Oracle} (cs : CSound cx C) {f : Nat} {L : Loops} (ls : LSound (cx.at f) L) {args : List AV} {σ0 σ1 : List (List AV)} {r : AV} (h : bodyT cx (codeT (cx.at f) C L) f args σ0 = some (r, σ1)) (h0 : ∀ c ∈ σ0, c ≠ []) (hx : cx.ext f = false) :
    (∃ fn, cx.P.funcs[f]? = some fn ∧ fn.body.isNone = false ∧ (fn.name == "runtime.NumGoroutine") = false) ∧ (cx.mkf f = true → ∀ cs, σ0 = [] → r = .loc 0 0 → σ1 = [cs] → cs ≠ [] ∧ (∀ x ∈ cs, dd x = x) ∧ MkPromise cx.P f args cs) ∧ (cx.mkf f = false → dd r = r ∧ σ1.length = σ0.length ∧ (∀ c ∈ σ1, c ≠ [] ∧ ∀ x ∈ c, dd x = x) ∧ Promise cx.P f args σ0 r σ1) := by
  simp only [bodyT, Option.bind_eq_some_iff] at h
  obtain ⟨fn, hf, c, hbody, h⟩ := h
  split at h
  · cases h
  · rename_i hname
    obtain ⟨o, ho, h⟩ := Option.bind_eq_some_iff.1 h
    have hex : (o.ex = .normal ∨ o.ex = .ret) ∧ ((resultsT cx o.r o.S fn.results.toList).bind fun vs => if cx.mkf f = true then (match σ0, vs with
        | [], [.loc b 0] => (o.S.σ[b]?).bind fun cs => if cs.isEmpty = true then none else some (.loc 0 0, [cs.map dd])
        | _, _ => none) else if ((o.S.σ.take σ0.length).any List.isEmpty || decide (o.S.σ.length < σ0.length)) = true then none else
        some (fz o.S.σ σ0.length o.S.σ.length (pack vs), (o.S.σ.take σ0.length).map (·.map dd))) = some (r, σ1) := by
      cases he : o.ex with
      | normal => rw [he] at h; exact ⟨.inl rfl, h⟩
      | ret => rw [he] at h; exact ⟨.inr rfl, h⟩
      | exit i => rw [he] at h; cases h
    obtain ⟨hex, h⟩ := hex
    obtain ⟨vs, hvs, h⟩ := Option.bind_eq_some_iff.1 h
    by_cases hmk : cx.mkf f = true
    · rw [if_pos hmk] at h
      refine ⟨⟨fn, hf, by rw [hbody]; rfl, by simpa using hname⟩, fun _ cs' hσ0 hr' hσ1 => ?_, fun e => by rw [e] at hmk; cases hmk⟩
      subst hσ0; subst hr'; subst hσ1
      split at h
      · rename_i b _
        obtain ⟨c0, hc0, h⟩ := Option.bind_eq_some_iff.1 h
        split at h
        · cases h
        · rename_i hne
          cases h
          have hne : c0 ≠ [] := fun e => hne (by rw [e]; rfl)
          refine ⟨by simpa using hne, fun x hx => by obtain ⟨y, _, rfl⟩ := List.mem_map.1 hx; exact dd_dd y, fun G w us htok hloc sr hr => ?_⟩
          refine calls_of_wp hf hbody ?_
          have hr0 : VRs G w (args ++ List.replicate (fn.ntmps - args.length) (.tup [])) (us ++ Array.replicate (fn.ntmps - us.size) Go.undef).toList := by
            rw [Array.toList_append]
            refine hr.append ?_
            have : us.size = args.length := by have := hr.1; simpa using this.symm
            rw [this]
            refine ⟨by simp, fun i p q => ?_⟩
            simp only [List.getElem_replicate, Array.toList_replicate]
            exact VR.noval G w
          refine code_wp (cx := cx.at f) ⟨ok.ty, ok.mixed⟩ cs ls c _ _ o (hb f fn c hx hf hbody) ho hr0 sr fun a' w' G2 hr2 sr2 mv hd => ?_
          obtain ⟨blk, vs2, t, g1, g2, g3, g4⟩ := sr2.blk b c0 hc0 hne
          have hout : G2.out = G.out := mv.ge.out
          have hmem : some blk ∈ G2.loc := List.mem_of_getElem? g1
          have stab : ∀ a, Stab G2 w' a → Stab G w' a := fun a s => ⟨s.1, fun hm => by rw [hloc] at hm; simp at hm, fun e he => by rw [htok] at he; simp at he, by rw [← hout]; exact s.2.2.2⟩
          have stab1 : ∀ a, Stab G2 w' a → Stab ⟨[some blk], [], G.out⟩ w' a := fun a s => ⟨s.1, fun hm => by
            simp at hm; exact s.2.1 (by rw [hm]; exact hmem), fun e he => by simp at he, by rw [← hout]; exact s.2.2.2⟩
          obtain ⟨us2, e2, r2⟩ := results_ok ok hr2 sr2 fn.results.toList _ hvs
          obtain ⟨u, us3, rfl, hu, hnil⟩ := r2.uncons
          have : us3 = [] := List.eq_nil_of_length_eq_zero (by have := hnil.1; simpa using this.symm)
          subst this
          have hpost : a'.defers = [] ∧ ∃ v, (results fn a'.tmps).run cx.P w' = .ok v w' ∧ (∃ b, v = .pointer (some ⟨b, 0, none⟩) ∧ w.heap.size ≤ b ∧ SR ⟨[some b], [], G.out⟩ ⟨[c0.map dd], []⟩ w' ∧ Mv G w G w') := by
            refine ⟨hd, u, ?_, blk, ?_, ?_, ?_, ?_⟩
            · unfold results
              rw [Array.mapM_eq_mapM_toList]
              simp only [Sem.run_bind, Sem.run_map, map_eq_pure_bind, Result.andThen_ok, Sem.run_pure]
              erw [e2]
              simp
            · cases hu with
              | loc hl hv =>
                rw [g1] at hl
                cases hl
                rw [hv blk rfl]
            · rcases mv.nl blk hmem with h | h
              · rw [hloc] at h; simp at h
              · exact h
            · exact {
                len := rfl
                blk := fun i cs hi hn => by
                  cases i with
                  | zero =>
                    simp at hi
                    subst hi
                    exact ⟨blk, vs2, t, rfl, g2, g3.dd fun a u h s => ⟨h, stab1 a s⟩, g4⟩
                  | succ i => simp at hi
                nd := fun i j b hi hj => by
                  have hi' := (List.getElem?_eq_some_iff.1 hi).1
                  have hj' := (List.getElem?_eq_some_iff.1 hj).1
                  simp at hi' hj'; omega
                tk := rfl
                tnd := fun i j v b k v' k' h => by simp at h
                dis := fun e he => by simp at he
                tlt := fun e he => by simp at he
                llt := fun b hb => by simp at hb; subst hb; exact heap_lt g2
                od := fun e he => by
                  rw [← hout] at he
                  refine ⟨(sr2.od e he).1, fun hm => ?_, fun e' he' => by simp at he'⟩
                  simp at hm
                  exact (sr2.od e he).2.1 (by rw [hm]; exact hmem) }
            · exact ⟨{ cell := fun a u hcc s => ⟨(mv.ge.cell a u hcc s).1, stab a (mv.ge.cell a u hcc s).2⟩
                       loc := fun i o l => .inl l
                       tok := fun i v b k h => by rw [htok] at h; simp at h
                       out := rfl }, mv.os, mv.tape, mv.output, mv.size, mv.blk, fun b hb => .inl hb, fun e he => .inl ⟨e, he, rfl⟩⟩
          rcases hex with he | he <;> rw [he] <;> exact hpost
      · cases h
    rw [if_neg hmk] at h
    split at h
    · cases h
    · rename_i hany
      cases h
      simp only [Bool.or_eq_true, decide_eq_true_eq, not_or] at hany
      obtain ⟨hany, hshort⟩ := hany
      have hane : ∀ c ∈ o.S.σ.take σ0.length, c ≠ [] := fun c hc e => hany (List.any_eq_true.2 ⟨c, hc, by rw [e]; rfl⟩)
      have main : Promise cx.P f args σ0 (fz o.S.σ σ0.length o.S.σ.length (pack vs)) ((o.S.σ.take σ0.length).map (·.map dd)) ∧ True := by
        refine ⟨fun G w us htok sr hr => ?_, trivial⟩
        refine calls_of_wp hf hbody ?_
        have hr0 : VRs G w (args ++ List.replicate (fn.ntmps - args.length) (.tup [])) (us ++ Array.replicate (fn.ntmps - us.size) Go.undef).toList := by
          rw [Array.toList_append]
          refine hr.append ?_
          have : us.size = args.length := by have := hr.1; simpa using this.symm
          rw [this]
          refine ⟨by simp, fun i p q => ?_⟩
          simp only [List.getElem_replicate, Array.toList_replicate]
          exact VR.noval G w
        refine code_wp (cx := cx.at f) ⟨ok.ty, ok.mixed⟩ cs ls c _ _ o (hb f fn c hx hf hbody) ho hr0 sr fun a' w' G2 hr2 sr2 mv hd => ?_
        have hlen : G.loc.length = σ0.length := sr.len.symm
        have same : ∀ i, i < σ0.length → G2.loc[i]? = G.loc[i]? := fun i hi => by
          obtain ⟨x, hx⟩ : ∃ x, G.loc[i]? = some x := ⟨_, List.getElem?_eq_getElem (by omega)⟩
          rcases mv.ge.loc i x hx with h | h
          · rw [h, hx]
          · exfalso
            have hi2 : i < o.S.σ.length := by rw [sr2.len]; exact (List.getElem?_eq_some_iff.1 h).1
            have hne : o.S.σ[i] ≠ [] := hane _ (List.mem_iff_getElem?.2 ⟨i, by rw [List.getElem?_take, if_pos hi, List.getElem?_eq_getElem hi2]⟩)
            obtain ⟨b, _, _, g1, _⟩ := sr2.blk i _ (List.getElem?_eq_getElem hi2) hne
            rw [h] at g1
            cases g1
        have inloc : ∀ b, some b ∈ G.loc → ∃ i, i < σ0.length ∧ G2.loc[i]? = some (some b) := fun b hm => by
          obtain ⟨i, hi⟩ := List.getElem?_of_mem hm
          have hlt := (List.getElem?_eq_some_iff.1 hi).1
          exact ⟨i, by omega, by rw [same i (by omega)]; exact hi⟩
        have hout : G2.out = G.out := mv.ge.out
        have stab : ∀ a, Stab G2 w' a → Stab G w' a := fun a s => ⟨s.1, fun hm => by
          obtain ⟨i, _, hi⟩ := inloc _ hm
          exact s.2.1 (List.mem_of_getElem? hi), fun e he => by rw [htok] at he; simp at he, by rw [← hout]; exact s.2.2.2⟩
        have hc : ∀ (a : Addr) (u : Value), w'.cell? a = some u → Stab G2 w' a → w'.cell? a = some u ∧ Stab G w' a := fun a u h s => ⟨h, stab a s⟩
        have hnew : ∀ (i b : Nat), σ0.length ≤ i → G2.loc[i]? = some (some b) → ∀ j, Stab G w' ⟨b, j, none⟩ := fun i b hi hg j => ⟨sr2.llt b (List.mem_of_getElem? hg), fun hm => by
          obtain ⟨k, hk, hk2⟩ := inloc _ hm
          have := sr2.nd i k b hg hk2
          omega, fun e he => by rw [htok] at he; simp at he, fun e he hbe => by
          rw [← hout] at he
          exact absurd (List.mem_of_getElem? hg) (by have := (sr2.od e he).2.1; simp only at hbe; rw [hbe] at this; exact this)⟩
        obtain ⟨us2, e2, r2⟩ := results_ok ok hr2 sr2 fn.results.toList vs hvs
        have hpost : a'.defers = [] ∧ ∃ v, (results fn a'.tmps).run cx.P w' = .ok v w' ∧ (VR G w' (fz o.S.σ σ0.length o.S.σ.length (pack vs)) v ∧ SR G ⟨(o.S.σ.take σ0.length).map (·.map dd), []⟩ w' ∧ Mv G w G w') := by
          refine ⟨hd, _, ?_, fz_rel sr2 hc hnew _ (pack_rel r2), ?_, ?_⟩
          · unfold results
            rw [Array.mapM_eq_mapM_toList]
            simp only [Sem.run_bind, Sem.run_map, map_eq_pure_bind, Result.andThen_ok, Sem.run_pure]
            erw [e2]
            simp only [Result.andThen_ok]
          · exact {
              len := by simp only [List.length_map, List.length_take, hlen]; omega
              blk := fun i cs hi hn => by
                simp only [List.getElem?_map, Option.map_eq_some_iff, List.getElem?_take] at hi
                obtain ⟨c2, hi, rfl⟩ := hi
                split at hi
                · rename_i hlt
                  obtain ⟨b, vs2, t, g1, g2, g3, g4⟩ := sr2.blk i c2 hi (fun e => hn (by rw [e]; rfl))
                  exact ⟨b, vs2, t, by rw [← same i hlt]; exact g1, g2, g3.dd hc, g4⟩
                · cases hi
              nd := sr.nd
              tk := sr.tk
              tnd := sr.tnd
              dis := sr.dis
              tlt := fun e he => Nat.lt_of_lt_of_le (sr.tlt e he) mv.size
              llt := fun b hb => Nat.lt_of_lt_of_le (sr.llt b hb) mv.size
              od := fun e he => ⟨Nat.lt_of_lt_of_le (sr.od e he).1 mv.size, (sr.od e he).2⟩ }
          · exact ⟨{ cell := fun a u hcc s => ⟨(mv.ge.cell a u hcc s).1, stab a (mv.ge.cell a u hcc s).2⟩
                     loc := fun i o l => .inl l
                     tok := fun i v b k h => by rw [htok] at h; simp at h
                     out := rfl }, mv.os, mv.tape, mv.output, mv.size, mv.blk, fun b hb => .inl hb, fun e he => .inl ⟨e, he, rfl⟩⟩
        rcases hex with he | he <;> rw [he] <;> exact hpost
      exact ⟨⟨fn, hf, by rw [hbody]; rfl, by simpa using hname⟩, fun e => absurd e hmk, fun _ => ⟨dd_fz _ _ _ _, by simp only [List.length_map, List.length_take]; omega, fun c hc => by
        obtain ⟨c2, h2, rfl⟩ := List.mem_map.1 hc
        exact ⟨by simpa using hane c2 h2, fun x hx => by
          obtain ⟨y, _, rfl⟩ := List.mem_map.1 hx
          exact dd_dd y⟩, main.1⟩⟩

theorem call_sound {cx : Cx} (ok : CxOk cx) (hb : BodiesOk cx) {E : Oracle} (he : CSound cx E) : ∀ n, CSound cx (callN cx E n)
  | 0 => fun f args σ0 r σ1 h => by simp only [callN] at h; cases h
  | n + 1 => fun f args σ0 r σ1 h h0 => by
    simp only [callN] at h
    split at h
    · exact he f args σ0 r σ1 h h0
    · rename_i hx
      have ok' : CxOk (cx.at f) := ⟨ok.ty, ok.mixed⟩
      have cs' : CSound (cx.at f) (callN cx E n) := call_sound ok hb he n
      exact body_sound ok hb (call_sound ok hb he n) (loop_sound ok' cs' n) h h0 (by simpa using hx)

/-! ### The type table, out of the program -/
def kindOf (P : Program) (t : Nat) (size : Nat) (z : Value) : Option TK := match P.underlying t with
  | some (.struct fields) => match z with
    | .agg _ => if (fields.toList.mapM fun f => (P.info? f.type).map fun i => (f.offset, i.size)).isSome = true then some (.struct (fields.toList.map fun f => (f.offset, f.type))) else none
    | _ => none
  | some (.array n e) => match z with
    | .agg _ => some (.arr n e)
    | _ => none
  | some (.slice e) => if z.oneCell' = true ∧ size = 1 then some (.slice e) else none
  | some (.pointer _) => if z.oneCell' = true ∧ size = 1 then some .ptr else none
  | some (.interface _) => if z.oneCell' = true ∧ size = 1 then some .iface else none
  | some _ => if z.oneCell' = true ∧ size = 1 then some .atom else none
  | none => none

def tyOf (P : Program) (t : Nat) : Option TI := (P.info? t).bind fun i => i.zero.bind fun z => (absCells z.cells.toList).bind fun cs => (kindOf P t i.size z).bind fun k =>
  if z.cells.size = i.size then some ⟨i.size, i.bytes, cs, k⟩ else none

theorem tyOf_ok {P : Program} {t : Nat} {ti : TI} (h : tyOf P t = some ti) : ∃ i z, P.info? t = some i ∧ i.size = ti.size ∧ i.bytes = ti.bytes ∧ i.zero = some z ∧ absCells z.cells.toList = some ti.zero ∧ z.cells.size = ti.size ∧ KindOk P t ti z := by
  simp only [tyOf, Option.bind_eq_some_iff] at h
  obtain ⟨i, hi, z, hz, cs, hc, k, hk, h⟩ := h
  split at h
  · rename_i hs
    cases h
    refine ⟨i, z, hi, rfl, rfl, hz, hc, hs, ?_⟩
    unfold kindOf at hk
    unfold KindOk
    split at hk
    · rename_i fields hu
      split at hk
      · rename_i cs'
        split at hk
        · rename_i hp
          cases hk
          obtain ⟨places, hp⟩ := Option.isSome_iff_exists.1 hp
          exact ⟨⟨fields, hu, rfl, places, hp⟩, _, rfl⟩
        · cases hk
      · cases hk
    · rename_i n e hu
      split at hk
      · cases hk; exact ⟨hu, _, rfl⟩
      · cases hk
    · rename_i e hu
      split at hk
      · rename_i h1; cases hk; exact ⟨hu, h1.1, h1.2⟩
      · cases hk
    · rename_i e hu
      split at hk
      · rename_i h1; cases hk; exact ⟨⟨e, hu⟩, h1.1, h1.2⟩
      · cases hk
    · rename_i ms hu
      split at hk
      · rename_i h1; cases hk; exact ⟨⟨ms, hu⟩, h1.1, h1.2⟩
      · cases hk
    · rename_i d h1 h2 h3 h4 h5 hu
      split at hk
      · rename_i h6
        cases hk
        refine ⟨⟨d, hu, ?_⟩, h6.1, h6.2⟩
        cases d <;> first | rfl | (exfalso; first | exact h1 _ rfl | exact h2 _ _ rfl | exact h5 _ rfl)
      · cases hk
    · cases hk
  · cases h

end M
end Go.Proofs.Ytgkdehfbeejlfaa
