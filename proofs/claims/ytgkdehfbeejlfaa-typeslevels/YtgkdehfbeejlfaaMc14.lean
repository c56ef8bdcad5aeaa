/- SOUNDNESS 13: two operations that may change places. -/
import Derived.Test.YtgkdehfbeejlfaaMc13
set_option linter.unusedVariables false
set_option linter.unusedSimpArgs false
namespace Go.Proofs.Ytgkdehfbeejlfaa
namespace M

structure FrO (cx : Cx) (C : Oracle) (r : Regs) (op : Op) (F : List Nat) (S : St) (v : AV) (S' : St) : Prop where
  tk : S'.tk = S.tk
  len : S'.σ.length = S.σ.length
  lt : ∀ b ∈ F, b < S.σ.length
  off : ∀ b, b ∉ F → S'.σ[b]? = S.σ[b]?
  any : ∀ S2 : St, (∀ b ∈ F, S2.σ[b]? = S.σ[b]?) → ∃ σ2, opT cx C r S2 op = some (v, ⟨σ2, S2.tk⟩) ∧ σ2.length = S2.σ.length ∧ (∀ b ∈ F, σ2[b]? = S'.σ[b]?) ∧ ∀ b, b ∉ F → σ2[b]? = S2.σ[b]?

theorem load_fr {cx : Cx} {C : Oracle} {r : Regs} {S S' : St} {o : Oper} {v : AV} (hk : kd cx o.op = .load) (h : opT cx C r S o.op = some (v, S')) : S' = S ∧ FrO cx C r o.op (foot r o) S v S' := by
  obtain ⟨dst, op, type, pos, after, guard⟩ := o
  simp only at hk h ⊢
  cases op
  case load t a =>
    simp only [opT, Option.bind_eq_some_iff, Option.map_eq_some_iff] at h
    obtain ⟨p, hp, v', h1, h2⟩ := h
    cases h2
    refine ⟨rfl, rfl, rfl, ?_, fun _ _ => rfl, fun S2 hag => ⟨S2.σ, ?_, rfl, hag, fun _ _ => rfl⟩⟩
    · simp only [foot, hp, Option.map_some, Option.getD_some]
      intro b hb
      cases p with
      | loc c off =>
        simp only [AV.block, List.mem_singleton] at hb
        subst hb
        simp only [loadT, Option.bind_eq_some_iff] at h1
        obtain ⟨ti, _, cs, hcs, _⟩ := h1
        exact (List.getElem?_eq_some_iff.1 hcs).1
      | _ => simp [AV.block] at hb
    · simp only [opT, hp, Option.bind_some, Option.map_eq_some_iff]
      refine ⟨v, ?_, rfl⟩
      cases p with
      | loc c off =>
        have := hag c (by simp only [foot, hp, Option.map_some, Option.getD_some, AV.block, List.mem_singleton])
        simp only [loadT, this]
        exact h1
      | _ => exact h1
  case box t x => simp only [kd] at hk; split at hk <;> cases hk
  case call c =>
    simp only [kd] at hk
    split at hk
    · cases hk
    · cases hk
    · split at hk
      · cases hk
      · split at hk <;> cases hk
    · cases hk
  all_goals (simp only [kd] at hk; cases hk)

theorem write_fr {cx : Cx} {C : Oracle} {r : Regs} {S S' : St} {o : Oper} {v : AV} (hk : kd cx o.op = .write) (h : opT cx C r S o.op = some (v, S')) : FrO cx C r o.op (foot r o) S v S' := by
  obtain ⟨dst, op, type, pos, after, guard⟩ := o
  simp only at hk h ⊢
  cases op
  case store t a x =>
    simp only [opT, Option.bind_eq_some_iff, Option.map_eq_some_iff] at h
    obtain ⟨p, hp, y, hy, S1, h1, h2⟩ := h
    cases h2
    unfold storeT at h1
    split at h1
    · rename_i b off
      obtain ⟨ti, hti, h1⟩ := Option.bind_eq_some_iff.1 h1
      obtain ⟨cs, hcs, h1⟩ := Option.bind_eq_some_iff.1 h1
      split at h1
      · rename_i hc
        cases h1
        have hF : foot r ⟨dst, .store t a x, type, pos, after, guard⟩ = [b] := by simp only [foot, hp, Option.map_some, Option.getD_some, AV.block]
        have hlt := (List.getElem?_eq_some_iff.1 hcs).1
        rw [hF]
        refine ⟨rfl, by simp, fun c hc => by simp only [List.mem_singleton] at hc; subst hc; exact hlt, fun c hc => ?_, fun S2 hag => ⟨S2.σ.set b (splice cs off y.cells), ?_, by simp, fun c hc => ?_, fun c hc => ?_⟩⟩
        · simp only [List.mem_singleton] at hc
          exact List.getElem?_set_ne (Ne.symm hc)
        · have := hag b (by simp)
          simp only [opT, hp, hy, Option.bind_some, storeT, hti, this, hcs, if_pos hc, Option.map_some]
        · simp only [List.mem_singleton] at hc
          subst hc
          have := hag c (by simp)
          rw [hcs] at this
          simp only [List.getElem?_set_self hlt, List.getElem?_set_self (List.getElem?_eq_some_iff.1 this).1]
        · simp only [List.mem_singleton] at hc
          exact List.getElem?_set_ne (Ne.symm hc)
      · cases h1
    · cases h1
  case box t x => simp only [kd] at hk; split at hk <;> cases hk
  case call c =>
    simp only [opT, Option.bind_eq_some_iff] at h
    obtain ⟨args, ha, h⟩ := h
    split at h
    · rename_i b hb
      simp only [kd, hb] at hk
      cases b <;> cases hk
    · rename_i x hb
      cases hmo : mkOp cx x with
      | some g =>
        exfalso
        unfold mkOp at hmo
        split at hmo
        · split at hmo
          · rename_i hm
            simp only [kd, hb, if_pos hm] at hk
            cases hk
          · cases hmo
        · cases hmo
      | none =>
        rw [hmo] at h
        obtain ⟨f, hf, h⟩ := Option.bind_eq_some_iff.1 h
        unfold applyT at h
        split at h
        · rename_i fi cap
          split at h
          · cases h
          · rename_i hm
            obtain ⟨q1, q2, q3, q4⟩ := callT_fr h
            have hF : foot r ⟨dst, .call c, type, pos, after, guard⟩ = (args ++ cap).flatMap AV.locs := by
              simp only [foot, ha, Option.map_some, Option.getD_some, hb, hf, List.flatMap_append]
            rw [hF]
            refine ⟨q1, q2.len, q3, q2.off, fun S2 hag => ?_⟩
            obtain ⟨σ2, e, l, i, o⟩ := q2.any S2.σ hag
            obtain ⟨⟨v2, S3⟩, h3, h4⟩ := Option.map_eq_some_iff.1 e
            simp only [Prod.mk.injEq] at h4
            obtain ⟨rfl, rfl⟩ := h4
            obtain ⟨_, h5⟩ := q4 _ _ _ _ h3
            refine ⟨S3.σ, ?_, l, i, o⟩
            simp only [opT, ha, hb, hmo, hf, Option.bind_some, applyT, if_neg hm]
            exact h5 S2.tk
        · cases h
    · cases h
  all_goals (simp only [kd] at hk; cases hk)

theorem alloc_fr {cx : Cx} {C : Oracle} {r : Regs} {S S' : St} {op : Op} {v : AV} (hk : kd cx op = .alloc) (h : opT cx C r S op = some (v, S')) :
    ∃ z, S' = ⟨S.σ ++ [z], S.tk⟩ ∧ v.made = [S.σ.length] ∧ ∀ S2 : St, S2.σ.length = S.σ.length → opT cx C r S2 op = some (v, ⟨S2.σ ++ [z], S2.tk⟩) := by
  cases op
  case alloc t =>
    simp only [opT, Option.bind_eq_some_iff] at h
    obtain ⟨ti, ht, h⟩ := h
    split at h
    · rename_i hc
      cases h
      exact ⟨_, rfl, rfl, fun S2 hl => by simp only [opT, ht, Option.bind_some, if_pos hc, hl]⟩
    · cases h
  case box t x =>
    simp only [kd] at hk
    split at hk
    · cases hk
    · rename_i him
      simp only [opT, Option.bind_eq_some_iff] at h
      obtain ⟨x', hx, h⟩ := h
      split at h
      · rename_i hc
        cases h
        exact ⟨_, rfl, rfl, fun S2 hl => by simp only [opT, hx, Option.bind_some, if_pos hc, if_neg him, hl]⟩
      · cases h
  case makeSlice t l c =>
    simp only [opT, Option.bind_eq_some_iff] at h
    obtain ⟨l', hl, c', hc, h⟩ := h
    simp only [makeSliceT, Option.bind_eq_some_iff] at h
    obtain ⟨ti, ht, h⟩ := h
    split at h
    · rename_i e he
      simp only [Option.bind_eq_some_iff] at h
      obtain ⟨te, hte, n, hn, m, hm, h⟩ := h
      split at h
      · rename_i hcn
        cases h
        exact ⟨_, rfl, rfl, fun S2 hl2 => by simp only [opT, hl, hc, Option.bind_some, makeSliceT, ht, he, hte, hn, hm, if_pos hcn, hl2]⟩
      · cases h
    · cases h
  case call c =>
    simp only [kd] at hk
    split at hk
    · cases hk
    · cases hk
    · split at hk
      · cases hk
      · split at hk <;> cases hk
    · cases hk
  all_goals (simp only [kd] at hk; cases hk)

theorem append_fr {cx : Cx} {C : Oracle} {r : Regs} {S S' : St} {op : Op} {v : AV} (hk : kd cx op = .append) (h : opT cx C r S op = some (v, S')) :
    S'.σ = S.σ ∧ ∀ S2 : St, S2.tk = S.tk → opT cx C r S2 op = some (v, ⟨S2.σ, S'.tk⟩) := by
  cases op
  case box t x => simp only [kd] at hk; split at hk <;> cases hk
  case call c =>
    simp only [opT, Option.bind_eq_some_iff] at h
    obtain ⟨args, ha, h⟩ := h
    simp only [kd] at hk
    split at hk
    · rename_i hb
      simp only [hb, builtinT] at h
      split at h
      · cases ‹Builtin.append = Builtin.len›
      · rename_i t t' s x hts
        split at h
        · rename_i htt
          have h0 := h
          simp only [appendT, Option.bind_eq_some_iff] at h
          obtain ⟨ti, ht, h⟩ := h
          split at h
          · rename_i e he
            obtain ⟨te, hte, h⟩ := Option.bind_eq_some_iff.1 h
            split at h
            · split at h
              · rename_i es o _ xs _ _
                unfold appendE at h
                have fin : ∀ S2 : St, appendE te S2 es o xs = some (v, ⟨S2.σ, S'.tk⟩) → opT cx C r S2 (.call c) = some (v, ⟨S2.σ, S'.tk⟩) := fun S2 h2 => by
                  simp only [opT, ha, Option.bind_some, hb, builtinT, hts, if_pos htt, appendT, ht, he, hte]
                  exact h2
                by_cases hx : xs = []
                · rw [if_pos hx] at h
                  cases h
                  exact ⟨rfl, fun S2 hs => fin S2 (by unfold appendE; rw [if_pos hx, ← hs])⟩
                · rw [if_neg hx] at h
                  split at h
                  · rename_i hc
                    cases o with
                    | full =>
                      cases h
                      exact ⟨rfl, fun S2 hs => fin S2 (by unfold appendE; simp only [if_neg hx, if_pos hc, hs])⟩
                    | tok n vv =>
                      simp only at h
                      split at h
                      · rename_i hcc
                        cases h
                        refine ⟨rfl, fun S2 hs => fin S2 ?_⟩
                        unfold appendE
                        rw [if_neg hx, if_pos hc]
                        simp only [hs]
                        rw [if_pos hcc]
                      · cases h
                    | dead => cases h
                  · cases h
              · cases h
            · cases h
          · cases h
        · cases h
      · cases ‹Builtin.append = Builtin.max›
      · cases ‹Builtin.append = Builtin.min›
      · cases h
    · cases hk
    · split at hk
      · cases hk
      · split at hk <;> cases hk
    · cases hk
  all_goals (simp only [kd] at hk; cases hk)

/-- Kinds that may change places whatever they touch; and if they touch different blocks. -/
def freeK : Kd → Kd → Bool
  | .pure, _ | _, .pure | .load, .load | .load, .alloc | .write, .alloc => true
  | .append, .append => false
  | .other, _ | _, .other => false
  | .append, _ | _, .append => true
  | _, _ => false
def looseK : Kd → Kd → Bool
  | .load, .write | .write, .load | .write, .write | .alloc, .load | .alloc, .write => true
  | _, _ => false

theorem swap_op {cx : Cx} {C : Oracle} {r : Regs} {S S1 S2 : St} {oj oi : Oper} {vj vi : AV} (hj : opT cx C r S oj.op = some (vj, S1)) (hi : opT cx C r S1 oi.op = some (vi, S2))
    (hk : freeK (kd cx oj.op) (kd cx oi.op) = true ∨ (looseK (kd cx oj.op) (kd cx oi.op) = true ∧ (kd cx oj.op ≠ .alloc → ∀ b ∈ foot r oj, b ∉ foot r oi) ∧ (kd cx oj.op = .alloc → ∀ b ∈ vj.made, b ∉ foot r oi))) :
    ∃ S1', opT cx C r S oi.op = some (vi, S1') ∧ opT cx C r S1' oj.op = some (vj, S2) := by
  have framed : ∀ {o : Oper} {S S' : St} {v : AV}, (kd cx o.op = .load ∨ kd cx o.op = .write) → opT cx C r S o.op = some (v, S') → FrO cx C r o.op (foot r o) S v S' := fun hk h => by
    rcases hk with hk | hk
    · exact (load_fr hk h).2
    · exact write_fr hk h
  have two : (∀ b ∈ foot r oj, b ∉ foot r oi) → FrO cx C r oj.op (foot r oj) S vj S1 → FrO cx C r oi.op (foot r oi) S1 vi S2 → ∃ S1', opT cx C r S oi.op = some (vi, S1') ∧ opT cx C r S1' oj.op = some (vj, S2) := by
    intro hd fj fi
    obtain ⟨σ', e1, l1, i1, o1⟩ := fi.any S fun b hb => (fj.off b fun hm => hd b hm hb).symm
    obtain ⟨σ'', e2, l2, i2, o2⟩ := fj.any ⟨σ', S.tk⟩ fun b hb => o1 b (hd b hb)
    refine ⟨_, e1, ?_⟩
    rw [e2]
    have : σ'' = S2.σ := by
      apply List.ext_getElem?
      intro b
      by_cases hbj : b ∈ foot r oj
      · rw [i2 b hbj, fi.off b (hd b hbj)]
      · rw [o2 b hbj]
        by_cases hbi : b ∈ foot r oi
        · exact i1 b hbi
        · rw [o1 b hbi, fi.off b hbi, fj.off b hbj]
    subst this
    have htk : S2.tk = S.tk := fi.tk.trans fj.tk
    rw [← htk]
  have frAlloc : FrO cx C r oj.op (foot r oj) S vj S1 → kd cx oi.op = .alloc → ∃ S1', opT cx C r S oi.op = some (vi, S1') ∧ opT cx C r S1' oj.op = some (vj, S2) := by
    intro fj ka
    obtain ⟨z, rfl, _, hany⟩ := alloc_fr ka hi
    refine ⟨_, hany S fj.len.symm, ?_⟩
    obtain ⟨σ'', e2, l2, i2, o2⟩ := fj.any ⟨S.σ ++ [z], S.tk⟩ fun b hb => List.getElem?_append_left (fj.lt b hb)
    rw [e2]
    have : σ'' = S1.σ ++ [z] := by
      apply List.ext_getElem?
      intro b
      by_cases hbj : b ∈ foot r oj
      · rw [i2 b hbj, List.getElem?_append_left (by rw [fj.len]; exact fj.lt b hbj)]
      · rw [o2 b hbj]
        simp only [List.getElem?_append, fj.len]
        split
        · exact (fj.off b hbj).symm
        · rfl
    rw [this, fj.tk]
  rcases hk with hk | ⟨hk, hd, hda⟩
  · by_cases kj : kd cx oj.op = .pure
    · obtain ⟨rfl, hp⟩ := pure_spec kj hj
      exact ⟨S2, hi, hp S2⟩
    by_cases ki : kd cx oi.op = .pure
    · obtain ⟨rfl, hp⟩ := pure_spec ki hi
      exact ⟨S, hp S, hj⟩
    have apj : kd cx oj.op = .append → kd cx oi.op = .load ∨ kd cx oi.op = .write → ∃ S1', opT cx C r S oi.op = some (vi, S1') ∧ opT cx C r S1' oj.op = some (vj, S2) := by
      intro ka kf
      obtain ⟨e1, hany⟩ := append_fr ka hj
      have fi := framed kf hi
      obtain ⟨σ', e2, l2, i2, o2⟩ := fi.any S fun b hb => by rw [e1]
      refine ⟨_, e2, ?_⟩
      rw [hany ⟨σ', S.tk⟩ rfl]
      have : σ' = S2.σ := by
        apply List.ext_getElem?
        intro b
        by_cases hbi : b ∈ foot r oi
        · exact i2 b hbi
        · rw [o2 b hbi, fi.off b hbi, e1]
      rw [this, ← fi.tk]
    have api : kd cx oi.op = .append → kd cx oj.op = .load ∨ kd cx oj.op = .write → ∃ S1', opT cx C r S oi.op = some (vi, S1') ∧ opT cx C r S1' oj.op = some (vj, S2) := by
      intro ka kf
      obtain ⟨e1, hany⟩ := append_fr ka hi
      have fj := framed kf hj
      refine ⟨_, hany S fj.tk.symm, ?_⟩
      obtain ⟨σ', e2, l2, i2, o2⟩ := fj.any ⟨S.σ, S2.tk⟩ fun b hb => rfl
      rw [e2]
      have : σ' = S2.σ := by
        rw [e1]
        apply List.ext_getElem?
        intro b
        by_cases hbj : b ∈ foot r oj
        · exact i2 b hbj
        · rw [o2 b hbj]; exact (fj.off b hbj).symm
      rw [this]
    cases hkj : kd cx oj.op <;> cases hki : kd cx oi.op <;> rw [hkj, hki] at hk <;> simp only [freeK, Bool.false_eq_true] at hk <;> (try (exact absurd hkj kj)) <;> (try (exact absurd hki ki))
    · obtain ⟨rfl, _⟩ := load_fr hkj hj
      obtain ⟨rfl, _⟩ := load_fr hki hi
      exact ⟨_, hi, hj⟩
    · exact frAlloc (framed (.inl hkj) hj) hki
    · exact api hki (.inl hkj)
    · -- alloc, append
      obtain ⟨z, rfl, _, hany⟩ := alloc_fr hkj hj
      obtain ⟨e1, ha⟩ := append_fr hki hi
      refine ⟨_, ha S rfl, ?_⟩
      rw [hany ⟨S.σ, S2.tk⟩ rfl]
      simp only at e1 ⊢
      rw [← e1]
    · exact frAlloc (framed (.inr hkj) hj) hki
    · exact api hki (.inr hkj)
    · exact apj hkj (.inl hki)
    · -- append, alloc
      obtain ⟨e1, ha⟩ := append_fr hkj hj
      obtain ⟨z, rfl, _, hany⟩ := alloc_fr hki hi
      refine ⟨_, hany S (by rw [e1]), ?_⟩
      rw [ha ⟨S.σ ++ [z], S.tk⟩ rfl, e1]
    · exact apj hkj (.inr hki)
  · cases hkj : kd cx oj.op <;> cases hki : kd cx oi.op <;> rw [hkj, hki] at hk <;> simp only [looseK, Bool.false_eq_true] at hk
    · exact two (hd (by simp [hkj])) (framed (.inl hkj) hj) (framed (.inr hki) hi)
    all_goals first
      | exact two (hd (by simp [hkj])) (framed (.inr hkj) hj) (framed (.inl hki) hi)
      | exact two (hd (by simp [hkj])) (framed (.inr hkj) hj) (framed (.inr hki) hi)
      | skip
    all_goals
      obtain ⟨z, rfl, hm, hany⟩ := alloc_fr hkj hj
      have fi : FrO cx C r oi.op (foot r oi) ⟨S.σ ++ [z], S.tk⟩ vi S2 := framed (by first | exact .inl hki | exact .inr hki) hi
      have hn : S.σ.length ∉ foot r oi := hda hkj S.σ.length (by rw [hm]; simp)
      have hlt : ∀ b ∈ foot r oi, b < S.σ.length := fun b hb => by
        have h1 := fi.lt b hb
        simp only [List.length_append, List.length_singleton] at h1
        have h2 : b ≠ S.σ.length := fun e => hn (e ▸ hb)
        omega
      obtain ⟨σ', e1, l1, i1, o1⟩ := fi.any S fun b hb => (List.getElem?_append_left (hlt b hb)).symm
      refine ⟨_, e1, ?_⟩
      rw [hany ⟨σ', S.tk⟩ l1]
      have : σ' ++ [z] = S2.σ := by
        apply List.ext_getElem?
        intro b
        by_cases hbi : b ∈ foot r oi
        · rw [List.getElem?_append_left (by rw [l1]; exact hlt b hbi)]; exact i1 b hbi
        · rw [fi.off b hbi]
          simp only [List.getElem?_append, l1]
          split
          · exact o1 b hbi
          · rfl
      rw [this]
      have htk : S2.tk = S.tk := fi.tk
      rw [← htk]

end M
end Go.Proofs.Ytgkdehfbeejlfaa
