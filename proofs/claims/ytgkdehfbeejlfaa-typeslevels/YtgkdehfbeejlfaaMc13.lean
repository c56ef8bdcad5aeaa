/- SOUNDNESS 12: what an operation leaves alone in the store. -/
import Derived.Test.YtgkdehfbeejlfaaMc12
set_option linter.unusedVariables false
set_option linter.unusedSimpArgs false
namespace Go.Proofs.Ytgkdehfbeejlfaa
namespace M

/-- Looks at and changes the blocks of F alone. -/
structure FrF {α : Type} (f : List (List AV) → Option (α × List (List AV))) (F : List Nat) (σ : List (List AV)) (a : α) (σ' : List (List AV)) : Prop where
  len : σ'.length = σ.length
  off : ∀ b, b ∉ F → σ'[b]? = σ[b]?
  any : ∀ σ2, (∀ b ∈ F, σ2[b]? = σ[b]?) → ∃ σ2', f σ2 = some (a, σ2') ∧ σ2'.length = σ2.length ∧ (∀ b ∈ F, σ2'[b]? = σ'[b]?) ∧ ∀ b, b ∉ F → σ2'[b]? = σ2[b]?

theorem FrF.mono {α : Type} {f : List (List AV) → Option (α × List (List AV))} {F F' : List Nat} {σ : List (List AV)} {a : α} {σ' : List (List AV)} (h : FrF f F σ a σ') (hs : ∀ b ∈ F, b ∈ F') : FrF f F' σ a σ' where
  len := h.len
  off := fun b hb => h.off b fun hm => hb (hs b hm)
  any := fun σ2 h2 => by
    obtain ⟨σ2', e, l, i, o⟩ := h.any σ2 fun b hb => h2 b (hs b hb)
    refine ⟨σ2', e, l, fun b hb => ?_, fun b hb => o b fun hm => hb (hs b hm)⟩
    by_cases hf : b ∈ F
    · exact i b hf
    · rw [o b hf, h2 b hb, h.off b hf]

theorem FrF.same {α : Type} {f : List (List AV) → Option (α × List (List AV))} {F : List Nat} {σ : List (List AV)} {a : α} (h : ∀ σ2, (∀ b ∈ F, σ2[b]? = σ[b]?) → f σ2 = some (a, σ2)) : FrF f F σ a σ where
  len := rfl
  off := fun _ _ => rfl
  any := fun σ2 h2 => ⟨σ2, h σ2 h2, rfl, h2, fun _ _ => rfl⟩

theorem FrF.bind {α β : Type} {f : List (List AV) → Option (α × List (List AV))} {g : α → List (List AV) → Option (β × List (List AV))} {F : List Nat} {σ σ1 σ2 : List (List AV)} {a : α} {b : β} (hf : FrF f F σ a σ1) (hg : FrF (g a) F σ1 b σ2) :
    FrF (fun σ => (f σ).bind fun x => g x.1 x.2) F σ b σ2 where
  len := hg.len.trans hf.len
  off := fun c hc => (hg.off c hc).trans (hf.off c hc)
  any := fun τ h => by
    obtain ⟨τ1, e1, l1, i1, o1⟩ := hf.any τ h
    obtain ⟨τ2, e2, l2, i2, o2⟩ := hg.any τ1 i1
    exact ⟨τ2, by simp only [e1, Option.bind_some, e2], l2.trans l1, i2, fun c hc => (o2 c hc).trans (o1 c hc)⟩

theorem FrF.map {α β : Type} {f : List (List AV) → Option (α × List (List AV))} {F : List Nat} {σ σ1 : List (List AV)} {a : α} (k : α → β) (hf : FrF f F σ a σ1) : FrF (fun σ => (f σ).map fun x => (k x.1, x.2)) F σ (k a) σ1 where
  len := hf.len
  off := hf.off
  any := fun τ h => by
    obtain ⟨τ1, e1, l1, i1, o1⟩ := hf.any τ h
    exact ⟨τ1, by simp only [e1, Option.map_some], l1, i1, o1⟩

theorem FrF.congr {α : Type} {f f' : List (List AV) → Option (α × List (List AV))} {F : List Nat} {σ σ1 : List (List AV)} {a : α} (h : ∀ σ, f σ = f' σ) (hf : FrF f F σ a σ1) : FrF f' F σ a σ1 := by
  have : f = f' := funext h
  exact this ▸ hf

theorem give_fr {σ σ' : List (List AV)} {v v' : AV} (h : give σ v = some (v', σ')) : FrF (fun σ => give σ v) v.block σ v' σ' ∧ ∀ b ∈ v.block, b < σ.length := by
  cases v with
  | loc b off =>
    simp only [give] at h
    obtain ⟨cs, hcs, h⟩ := Option.bind_eq_some_iff.1 h
    split at h
    · cases h
    · rename_i hne
      cases h
      have hlt := (List.getElem?_eq_some_iff.1 hcs).1
      refine ⟨⟨by simp, fun c hc => ?_, fun τ h => ⟨τ.set b [], ?_, by simp, fun c hc => ?_, fun c hc => ?_⟩⟩, fun c hc => by simp only [AV.block, List.mem_singleton] at hc; subst hc; exact hlt⟩
      · simp only [AV.block, List.mem_singleton] at hc
        exact List.getElem?_set_ne (Ne.symm hc)
      · have := h b (by simp [AV.block])
        simp only [give, this, hcs, Option.bind_some, if_neg hne]
      · simp only [AV.block, List.mem_singleton] at hc
        subst hc
        have := h c (by simp [AV.block])
        rw [hcs] at this
        rw [List.getElem?_set_self hlt, List.getElem?_set_self (List.getElem?_eq_some_iff.1 this).1]
      · simp only [AV.block, List.mem_singleton] at hc
        exact List.getElem?_set_ne (Ne.symm hc)
  | _ =>
    simp only [give] at h
    cases h
    exact ⟨.same fun σ2 _ => rfl, fun b hb => by simp [AV.block] at hb⟩

theorem gives_fr : ∀ (cs : List AV) {σ σ' : List (List AV)} {cs' : List AV}, gives σ cs = some (cs', σ') → FrF (fun σ => gives σ cs) (cs.flatMap AV.block) σ cs' σ' ∧ ∀ b ∈ cs.flatMap AV.block, b < σ.length
  | [], σ, σ', cs', h => by cases h; exact ⟨.same fun _ _ => rfl, fun b hb => by simp at hb⟩
  | v :: cs, σ, σ', cs', h => by
    simp only [gives, Option.bind_eq_some_iff, Option.map_eq_some_iff] at h
    obtain ⟨⟨v1, σ1⟩, h1, ⟨cs1, σ2⟩, h2, h3⟩ := h
    cases h3
    obtain ⟨f1, l1⟩ := give_fr h1
    obtain ⟨f2, l2⟩ := gives_fr cs h2
    have f1' := f1.mono (F' := (v :: cs).flatMap AV.block) fun b hb => by simp only [List.flatMap_cons, List.mem_append]; exact .inl hb
    have f2' := f2.mono (F' := (v :: cs).flatMap AV.block) fun b hb => by simp only [List.flatMap_cons, List.mem_append]; exact .inr hb
    refine ⟨(f1'.bind (g := fun x σ => (gives σ cs).map fun q => (x :: q.1, q.2)) (f2'.map (v1 :: ·))).congr fun σ => by simp only [gives], fun b hb => ?_⟩
    simp only [List.flatMap_cons, List.mem_append] at hb
    rcases hb with hb | hb
    · exact l1 b hb
    · rw [← f1.len]; exact l2 b hb

theorem handOne_fr {cx : Cx} {t : Nat} {refs refs' : List Nat} {σ σ' : List (List AV)} {v v' : AV} (h : handOne cx t refs σ v = some (v', refs', σ')) :
    FrF (fun σ => (handOne cx t refs σ v).map fun x => ((x.1, x.2.1), x.2.2)) v.locs σ (v', refs') σ' ∧ (∀ b ∈ v.locs, b < σ.length ∨ b ∈ refs') ∧ (∀ b ∈ refs', b ∈ refs ∨ b ∈ v.locs) ∧ ∀ b ∈ refs, b ∈ refs' := by
  unfold handOne at h ⊢
  cases v with
  | loc b off =>
    simp only at h ⊢
    split at h
    · cases h
    · rename_i ht
      simp only [if_neg ht]
      split at h
      · rename_i hr
        simp only [if_pos hr]
        split at h
        · rename_i hc
          cases h
          refine ⟨.same fun σ2 _ => by rw [if_pos hc]; rfl, fun c hc => .inr ?_, fun c hc => ?_, fun c hc => List.mem_append_left _ hc⟩
          · simp only [AV.locs, List.mem_singleton] at hc; subst hc; exact List.mem_append_right _ (by simp)
          · rcases List.mem_append.1 hc with h | h
            · exact .inl h
            · exact .inr (by simpa [AV.locs] using h)
        · cases h
      · rename_i hr
        simp only [if_neg hr]
        obtain ⟨⟨v1, σ1⟩, h1, h2⟩ := Option.map_eq_some_iff.1 h
        cases h2
        obtain ⟨f1, l1⟩ := give_fr h1
        exact ⟨(f1.map fun x => (x, refs)).congr fun σ => by simp only [Option.map_map, Function.comp_def], fun c hc => .inl (l1 c hc), fun c hc => .inl hc, fun c hc => hc⟩
  | fn f cs =>
    simp only at h ⊢
    split at h
    · cases h
    · rename_i ht
      simp only [if_neg ht]
      obtain ⟨⟨v1, σ1⟩, h1, h2⟩ := Option.map_eq_some_iff.1 h
      cases h2
      obtain ⟨f1, l1⟩ := gives_fr cs h1
      exact ⟨(f1.map fun x => (AV.fn f x, refs)).congr fun σ => by simp only [Option.map_map, Function.comp_def], fun c hc => .inl (l1 c hc), fun c hc => .inl hc, fun c hc => hc⟩
  | _ =>
    simp only at h ⊢
    cases h
    exact ⟨.same fun σ2 _ => rfl, fun b hb => by simp [AV.locs] at hb, fun c hc => .inl hc, fun c hc => hc⟩

theorem hand_fr {cx : Cx} : ∀ (args : List AV) {ts refs : List Nat} {σ : List (List AV)} {o : Over}, hand cx ts refs σ args = some o →
    FrF (fun σ => (hand cx ts refs σ args).map fun o => ((o.args, o.refs), o.σ)) (args.flatMap AV.locs) σ (o.args, o.refs) o.σ ∧ (∀ b ∈ args.flatMap AV.locs, b < σ.length ∨ b ∈ o.refs) ∧ (∀ b ∈ o.refs, b ∈ refs ∨ b ∈ args.flatMap AV.locs) ∧ ∀ b ∈ refs, b ∈ o.refs
  | [], ts, refs, σ, o, h => by
    simp only [hand] at h
    cases h
    exact ⟨.same fun _ _ => rfl, fun b hb => by simp at hb, fun b hb => .inl hb, fun b hb => hb⟩
  | v :: args, ts, refs, σ, o, h => by
    simp only [hand, Option.bind_eq_some_iff, Option.map_eq_some_iff] at h
    obtain ⟨⟨v1, r1, σ1⟩, h1, o1, h2, rfl⟩ := h
    obtain ⟨f1, l1, m1, s1⟩ := handOne_fr h1
    obtain ⟨f2, l2, m2, s2⟩ := hand_fr args h2
    have f1' := f1.mono (F' := (v :: args).flatMap AV.locs) fun b hb => by simp only [List.flatMap_cons, List.mem_append]; exact .inl hb
    have f2' := f2.mono (F' := (v :: args).flatMap AV.locs) fun b hb => by simp only [List.flatMap_cons, List.mem_append]; exact .inr hb
    refine ⟨(f1'.bind (g := fun x σ => ((hand cx ts.tail x.2 σ args).map fun o => ((o.args, o.refs), o.σ)).map fun q => ((x.1 :: q.1.1, q.1.2), q.2)) (f2'.map fun q => (v1 :: q.1, q.2))).congr fun σ => ?_, fun b hb => ?_, fun b hb => ?_, fun b hb => s2 b (s1 b hb)⟩
    · simp only [hand]
      cases handOne cx (ts.headD 0) refs σ v with
      | none => rfl
      | some x => simp only [Option.map_some, Option.bind_some, Option.map_map, Function.comp_def]
    · simp only [List.flatMap_cons, List.mem_append] at hb
      rcases hb with hb | hb
      · rcases l1 b hb with h | h
        · exact .inl h
        · exact .inr (s2 b h)
      · rcases l2 b hb with h | h
        · exact .inl (by rw [← f1.len]; exact h)
        · exact .inr h
    · simp only [List.flatMap_cons, List.mem_append]
      rcases m2 b hb with h | h
      · rcases m1 b h with h | h
        · exact .inl h
        · exact .inr (.inl h)
      · exact .inr (.inr h)

theorem putBack_off : ∀ (refs : List Nat) (css σ : List (List AV)) (b : Nat), b ∉ refs → (putBack σ refs css)[b]? = σ[b]?
  | [], css, σ, b, _ => by cases css <;> rfl
  | x :: bs, [], σ, b, _ => rfl
  | x :: bs, c :: css, σ, b, h => by
    simp only [List.mem_cons, not_or] at h
    simp only [putBack]
    rw [putBack_off bs css _ b h.2, List.getElem?_set_ne (Ne.symm h.1)]

theorem putBack_on : ∀ (refs : List Nat) (css σ τ : List (List AV)) (F : List Nat), (∀ b ∈ F, τ[b]? = σ[b]?) → (∀ b ∈ refs, b ∈ F) → ∀ b ∈ F, (putBack τ refs css)[b]? = (putBack σ refs css)[b]?
  | [], css, σ, τ, F, h, _ => by cases css <;> exact h
  | x :: bs, [], σ, τ, F, h, _ => h
  | x :: bs, c :: css, σ, τ, F, h, hs => by
    simp only [putBack]
    refine putBack_on bs css _ _ F (fun b hb => ?_) fun b hb => hs b (by simp [hb])
    simp only [List.getElem?_set]
    by_cases hxb : x = b
    · subst hxb
      have e := h x hb
      simp only [if_true]
      by_cases h1 : x < τ.length
      · have h2 : x < σ.length := by
          rw [List.getElem?_eq_getElem h1] at e
          exact (List.getElem?_eq_some_iff.1 e.symm).1
        rw [if_pos h1, if_pos h2]
      · have h2 : ¬ x < σ.length := fun h2 => h1 (by
          rw [List.getElem?_eq_getElem h2] at e
          exact (List.getElem?_eq_some_iff.1 e).1)
        rw [if_neg h1, if_neg h2]
    · rw [if_neg hxb, if_neg hxb]; exact h b hb

theorem callT_fr {cx : Cx} {C : Oracle} {S S' : St} {f : Nat} {args : List AV} {v : AV} (h : callT cx C S f args = some (v, S')) :
    S'.tk = S.tk ∧ FrF (fun σ => (callT cx C ⟨σ, S.tk⟩ f args).map fun x => (x.1, x.2.σ)) (args.flatMap AV.locs) S.σ v S'.σ ∧ (∀ b ∈ args.flatMap AV.locs, b < S.σ.length) ∧ ∀ σ tk v S2, callT cx C ⟨σ, tk⟩ f args = some (v, S2) → S2.tk = tk ∧ ∀ tk', callT cx C ⟨σ, tk'⟩ f args = some (v, ⟨S2.σ, tk'⟩) := by
  refine ⟨?_, ?_⟩
  · simp only [callT, Option.bind_eq_some_iff] at h
    obtain ⟨fn, hf, o, ho, h⟩ := h
    split at h
    · cases h
    · obtain ⟨x, hx, h⟩ := Option.map_eq_some_iff.1 h
      cases h; rfl
  refine ⟨?_, ?_, fun σ tk v S2 h => ?_⟩
  · have h0 := h
    simp only [callT, Option.bind_eq_some_iff] at h
    obtain ⟨fn, hf, o, ho, h⟩ := h
    split at h
    · cases h
    · rename_i hne
      obtain ⟨⟨r, σ1⟩, hc, h⟩ := Option.map_eq_some_iff.1 h
      cases h
      obtain ⟨f1, l1, m1, s1⟩ := hand_fr args ho
      have hsub : ∀ b ∈ o.refs, b ∈ args.flatMap AV.locs := fun b hb => (m1 b hb).resolve_left (by simp)
      refine ⟨by simp only [putBack_length, f1.len], fun b hb => ?_, fun τ hτ => ?_⟩
      · rw [putBack_off o.refs σ1 o.σ b fun hm => hb (hsub b hm)]
        exact f1.off b hb
      · obtain ⟨τ1, e1, q1, i1, o1⟩ := f1.any τ hτ
        obtain ⟨o2, ho2, e2⟩ := Option.map_eq_some_iff.1 e1
        obtain ⟨oa, orr, oσ⟩ := o2
        simp only [Prod.mk.injEq] at e2
        obtain ⟨⟨rfl, rfl⟩, rfl⟩ := e2
        have hcells : ∀ b ∈ o.refs, (oσ[b]?).getD [] = (o.σ[b]?).getD [] := fun b hb => by rw [i1 b (hsub b hb)]
        refine ⟨putBack oσ o.refs σ1, ?_, by rw [putBack_length, q1], fun b hb => ?_, fun b hb => ?_⟩
        · simp only [callT, hf, Option.bind_some, ho2]
          have hne2 : ¬ (o.refs.any fun b => ((oσ[b]?).getD []).isEmpty) = true := fun h => hne (by
            obtain ⟨b, hb, h⟩ := List.any_eq_true.1 h
            exact List.any_eq_true.2 ⟨b, hb, by rw [← hcells b hb]; exact h⟩)
          rw [if_neg hne2]
          have hm : (o.refs.map fun b => ((oσ[b]?).getD []).map dd) = o.refs.map fun b => ((o.σ[b]?).getD []).map dd := List.map_congr_left fun b hb => by rw [hcells b hb]
          rw [hm, hc]
          rfl
        · exact putBack_on o.refs σ1 o.σ oσ (args.flatMap AV.locs) i1 hsub b hb
        · rw [putBack_off o.refs σ1 oσ b fun hm => hb (hsub b hm)]
          exact o1 b hb
  · intro b hb
    simp only [callT, Option.bind_eq_some_iff] at h
    obtain ⟨fn, hf, o, ho, h⟩ := h
    split at h
    · cases h
    · rename_i hne
      obtain ⟨f1, l1, m1, s1⟩ := hand_fr args ho
      rcases l1 b hb with h | h
      · exact h
      · rw [← f1.len]
        refine Nat.lt_of_not_le fun hle => hne (List.any_eq_true.2 ⟨b, h, ?_⟩)
        rw [List.getElem?_eq_none hle]; rfl
  · simp only [callT, Option.bind_eq_some_iff] at h
    obtain ⟨fn, hf, o, ho, h⟩ := h
    split at h
    · cases h
    · rename_i hne
      obtain ⟨x, hx, h⟩ := Option.map_eq_some_iff.1 h
      cases h
      refine ⟨rfl, fun tk' => ?_⟩
      simp only [callT, hf, Option.bind_some, ho, if_neg hne, hx, Option.map_some]

end M
end Go.Proofs.Ytgkdehfbeejlfaa
