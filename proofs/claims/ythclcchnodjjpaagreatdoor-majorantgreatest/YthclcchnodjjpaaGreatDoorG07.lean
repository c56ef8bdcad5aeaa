/- A part of the proof: Mc12, Mc13, Mc14, Mc15. -/
import Derived.Test.YthclcchnodjjpaaGreatDoorG06
/- SOUNDNESS 11: kinds of operations, and which of them may change places. -/
set_option linter.unusedVariables false
set_option linter.unusedSimpArgs false
namespace Go.Proofs.YthclcchnodjjpaaGreatDoor
namespace M

/-- Looks at nothing but its operands; looks at the store; makes a block; changes blocks; appends. -/
inductive Kd where
  | pure | load | alloc | write | append | other
  deriving DecidableEq

def isClosed (cx : Cx) (f : Nat) (n : Nat) : Bool := match cx.P.funcs[f]? with
  | some fn => decide (n ≤ fn.params.size) && fn.params.toList.all fun t => !cx.tt t
  | none => false

def kd (cx : Cx) : Op → Kd
  | .load _ _ => .load
  | .store _ _ _ => .write
  | .alloc _ | .makeSlice _ _ _ => .alloc
  | .box t _ => if cx.im t = true then .pure else .alloc
  | .call c => match c.callee with
    | .builtin .append => .append
    | .builtin _ => .pure
    | .value (.func f) => if cx.mkf f = true then .other else if isClosed cx f c.args.size = true then .pure else .write
    | _ => .write
  | _ => .pure

/-! ### Closed calls -/
theorem hand_closed {cx : Cx} : ∀ (args : List AV) (ts : List Nat) (σ : List (List AV)) (o : Over), args.length ≤ ts.length → (∀ t ∈ ts, cx.tt t = false) → hand cx ts [] σ args = some o → o.refs = [] ∧ o.σ = σ ∧ ∀ σ2, hand cx ts [] σ2 args = some ⟨o.args, [], σ2⟩
  | [], ts, σ, o, hl, ht, h => by
    simp only [hand] at h ⊢
    cases h
    exact ⟨rfl, rfl, fun _ => rfl⟩
  | v :: args, [], σ, o, hl, ht, h => by simp at hl
  | v :: args, t :: ts, σ, o, hl, ht, h => by
    have htt := ht t (by simp)
    simp only [hand, Option.bind_eq_some_iff, Option.map_eq_some_iff, List.headD_cons, List.tail_cons] at h
    obtain ⟨⟨v1, r1, σ1⟩, h1, o1, h2, rfl⟩ := h
    have key : r1 = [] ∧ σ1 = σ ∧ ∀ σ2, handOne cx t [] σ2 v = some (v1, [], σ2) := by
      unfold handOne at h1 ⊢
      split at h1
      · rw [if_pos htt] at h1; cases h1
      · rw [if_pos htt] at h1; cases h1
      · rename_i hn1 hn2
        cases h1
        exact ⟨rfl, rfl, fun σ2 => rfl⟩
    obtain ⟨rfl, rfl, k3⟩ := key
    obtain ⟨q1, q2, q3⟩ := hand_closed args ts σ1 o1 (by simpa using hl) (fun t ht' => ht t (by simp [ht'])) h2
    refine ⟨q1, q2, fun σ2 => ?_⟩
    simp only [hand, List.headD_cons, List.tail_cons, k3 σ2, Option.bind_some, q3 σ2, Option.map_some]

theorem call_closed {cx : Cx} {C : Oracle} {S S' : St} {f : Nat} {args : List AV} {v : AV} (hc : isClosed cx f args.length = true) (h : callT cx C S f args = some (v, S')) : S' = S ∧ ∀ S2, callT cx C S2 f args = some (v, S2) := by
  unfold isClosed at hc
  simp only [callT, Option.bind_eq_some_iff] at h
  obtain ⟨fn, hf, o, ho, h⟩ := h
  rw [hf] at hc
  simp only [Bool.and_eq_true, decide_eq_true_eq, List.all_eq_true, Bool.not_eq_true'] at hc
  obtain ⟨q1, q2, q3⟩ := hand_closed args fn.params.toList S.σ o (by simpa using hc.1) hc.2 ho
  simp only [q1, q2, List.any_nil, Bool.false_eq_true, if_false, List.map_nil, Option.map_eq_some_iff] at h
  obtain ⟨⟨r, σ1⟩, h1, h2⟩ := h
  have pb : ∀ σ css, putBack σ [] css = σ := fun σ css => by cases css <;> rfl
  simp only [pb] at h2
  cases h2
  refine ⟨rfl, fun S2 => ?_⟩
  simp only [callT, hf, Option.bind_some, q3, List.any_nil, Bool.false_eq_true, if_false, List.map_nil, h1, Option.map_some, pb]

theorem pure_spec {cx : Cx} {C : Oracle} {r : Regs} {S S' : St} {op : Op} {v : AV} (hk : kd cx op = .pure) (h : opT cx C r S op = some (v, S')) : S' = S ∧ ∀ S2, opT cx C r S2 op = some (v, S2) := by
  have fin : ∀ {x : Option AV}, x.map (fun v => (v, S)) = some (v, S') → S' = S ∧ ∀ S2 : St, x.map (fun v => (v, S2)) = some (v, S2) := by
    intro x hx
    obtain ⟨v', rfl, h2⟩ := Option.map_eq_some_iff.1 hx
    cases h2
    exact ⟨rfl, fun _ => rfl⟩
  cases op
  case load => simp only [kd] at hk; cases hk
  case store => simp only [kd] at hk; cases hk
  case alloc => simp only [kd] at hk; cases hk
  case makeSlice => simp only [kd] at hk; cases hk
  case move x => exact fin h
  case assign x => exact fin h
  case pick c x y =>
    simp only [opT, Option.bind_eq_some_iff, Option.map_eq_some_iff] at h ⊢
    obtain ⟨c', h1, b, h2, x', h3, y', h4, h5⟩ := h
    cases h5
    exact ⟨rfl, fun S2 => ⟨c', h1, b, h2, x', h3, y', h4, rfl⟩⟩
  case box t x =>
    simp only [kd] at hk
    split at hk
    · rename_i hi
      simp only [opT, Option.bind_eq_some_iff] at h ⊢
      obtain ⟨x', hx, h⟩ := h
      split at h
      · rename_i hc
        cases h
        exact ⟨rfl, fun S2 => ⟨x', hx, by rw [if_pos hc, if_pos hi]⟩⟩
      · cases h
    · cases hk
  case build t ps =>
    simp only [opT, Option.bind_eq_some_iff] at h ⊢
    obtain ⟨x', hx, h⟩ := h
    exact ⟨(fin h).1, fun S2 => ⟨x', hx, (fin h).2 S2⟩⟩
  case buildSlice t n ps =>
    simp only [opT, Option.bind_eq_some_iff] at h ⊢
    obtain ⟨x', hx, h⟩ := h
    exact ⟨(fin h).1, fun S2 => ⟨x', hx, (fin h).2 S2⟩⟩
  case nilCheck x =>
    simp only [opT, Option.bind_eq_some_iff] at h ⊢
    obtain ⟨x', hx, h⟩ := h
    split at h
    all_goals first
      | (cases h; exact ⟨rfl, fun S2 => ⟨_, hx, rfl⟩⟩)
      | cases h
  case binOp op t x y yt =>
    simp only [opT, Option.bind_eq_some_iff] at h ⊢
    obtain ⟨x', hx, y', hy, h⟩ := h
    exact ⟨(fin h).1, fun S2 => ⟨x', hx, y', hy, (fin h).2 S2⟩⟩
  case unOp op t x =>
    cases op with
    | not =>
      simp only [opT, Option.bind_eq_some_iff, Option.map_eq_some_iff] at h ⊢
      obtain ⟨x', hx, b, h1, h2⟩ := h
      cases h2
      exact ⟨rfl, fun S2 => ⟨x', hx, b, h1, rfl⟩⟩
    | _ => simp only [opT] at h; cases h
  case makeInterface t x =>
    simp only [opT, Option.bind_eq_some_iff] at h ⊢
    obtain ⟨x', hx, h⟩ := h
    split at h
    · rename_i hi
      cases h
      exact ⟨rfl, fun S2 => ⟨x', hx, rfl⟩⟩
    · cases h
  case makeFunc fn fs cs =>
    cases fn with
    | func f =>
      simp only [opT] at h ⊢
      split at h
      · rename_i hz
        obtain ⟨vs, h1, h2⟩ := Option.map_eq_some_iff.1 h
        cases h2
        exact ⟨rfl, fun S2 => by rw [if_pos hz, h1]; rfl⟩
      · cases h
    | _ => simp only [opT] at h; cases h
  case slice t x lo hi mx =>
    simp only [opT] at h ⊢
    split at h
    · cases h
    · rename_i hm
      obtain ⟨x', hx, h⟩ := Option.bind_eq_some_iff.1 h
      exact ⟨(fin h).1, fun S2 => by rw [if_neg hm]; exact Option.bind_eq_some_iff.2 ⟨x', hx, (fin h).2 S2⟩⟩
  case fieldAddr t x f =>
    simp only [opT, Option.bind_eq_some_iff] at h ⊢
    obtain ⟨x', hx, h⟩ := h
    exact ⟨(fin h).1, fun S2 => ⟨x', hx, (fin h).2 S2⟩⟩
  case field t x f =>
    simp only [opT, Option.bind_eq_some_iff] at h ⊢
    obtain ⟨x', hx, h⟩ := h
    exact ⟨(fin h).1, fun S2 => ⟨x', hx, (fin h).2 S2⟩⟩
  case indexAddr t x i =>
    simp only [opT, Option.bind_eq_some_iff] at h ⊢
    obtain ⟨x', hx, y', hy, h⟩ := h
    exact ⟨(fin h).1, fun S2 => ⟨x', hx, y', hy, (fin h).2 S2⟩⟩
  case typeAssert x xt t b =>
    simp only [opT, Option.bind_eq_some_iff] at h ⊢
    obtain ⟨x', hx, h⟩ := h
    exact ⟨(fin h).1, fun S2 => ⟨x', hx, (fin h).2 S2⟩⟩
  case extract x i =>
    simp only [opT, Option.bind_eq_some_iff] at h ⊢
    obtain ⟨x', hx, h⟩ := h
    split at h
    · exact ⟨(fin h).1, fun S2 => ⟨_, hx, (fin h).2 S2⟩⟩
    · cases h
  case call c =>
    simp only [opT, Option.bind_eq_some_iff] at h ⊢
    obtain ⟨args, ha, h⟩ := h
    simp only [kd] at hk
    split at h
    · rename_i b hb
      rw [hb] at hk
      have : S' = S ∧ ∀ S2, builtinT cx S2 b c.argTypes.toList args = some (v, S2) := by
        unfold builtinT at h ⊢
        split at h
        · obtain ⟨ti, ht, h⟩ := Option.bind_eq_some_iff.1 h
          simp only [ht, Option.bind_some]
          split at h
          · cases h; exact ⟨rfl, fun _ => rfl⟩
          · cases h; exact ⟨rfl, fun _ => rfl⟩
          · cases h
        · simp only at hk; cases hk
        · split at h
          · rename_i hkk; cases h; exact ⟨rfl, fun _ => if_pos hkk⟩
          · cases h
        · split at h
          · rename_i hkk; cases h; exact ⟨rfl, fun _ => if_pos hkk⟩
          · cases h
        · cases h
      exact ⟨this.1, fun S2 => ⟨args, ha, this.2 S2⟩⟩
    · rename_i x hb
      rw [hb] at hk
      cases x with
      | func g =>
        simp only at hk
        split at hk
        · cases hk
        · rename_i hm
          split at hk
          · rename_i hc
            have hmo : mkOp cx (.func g) = none := by simp only [mkOp, if_neg hm]
            have hlen : ∀ {xs : List Operand} {vs : List AV}, evs r xs = some vs → vs.length = xs.length := by
              intro xs
              induction xs with
              | nil => intro vs h; cases h; rfl
              | cons x xs ih =>
                intro vs h
                simp only [evs, Option.bind_eq_some_iff, Option.map_eq_some_iff] at h
                obtain ⟨_, _, _, h2, rfl⟩ := h
                simp [ih h2]
            simp only [hmo, ev, Option.bind_some, applyT, if_neg hm, List.append_nil] at h ⊢
            have hl : args.length = c.args.size := by simpa using hlen ha
            obtain ⟨e1, e2⟩ := call_closed (by rw [hl]; exact hc) h
            exact ⟨e1, fun S2 => ⟨args, ha, e2 S2⟩⟩
          · cases hk
      | _ => simp only at hk; cases hk
    · cases h
  all_goals (simp only [opT] at h; cases h)

end M
end Go.Proofs.YthclcchnodjjpaaGreatDoor
/- SOUNDNESS 12: what an operation leaves alone in the store. -/
set_option linter.unusedVariables false
set_option linter.unusedSimpArgs false
namespace Go.Proofs.YthclcchnodjjpaaGreatDoor
namespace M

/-- Looks at and changes the blocks of F alone. -/
structure FrF {α : Type} (f : List (List AV) → Option (α × List (List AV))) (F : List Nat) (σ : List (List AV)) (a : α) (σ' : List (List AV)) : Prop where
  len : σ'.length = σ.length
  off : ∀ b, b ∉ F → σ'[b]? = σ[b]?
  any : ∀ σ2, (∀ b ∈ F, σ2[b]? = σ[b]?) → ∃ σ2', f σ2 = some (a, σ2') ∧ σ2'.length = σ2.length ∧ (∀ b ∈ F, σ2'[b]? = σ'[b]?) ∧ ∀ b, b ∉ F → σ2'[b]? = σ2[b]?

theorem FrF.mono {α : Type} {f : List (List AV) → Option (α × List (List AV))} {F F' : List Nat} {σ : List (List AV)} {a : α} {σ' : List (List AV)} (h : FrF f F σ a σ') (hs : ∀ b ∈ F, b ∈ F') : FrF f F' σ a σ' where
  len := h.len
  off := fun b hb => h.off b fun hm => hb (hs b hm)
  any := fun σ2 h2 => by
    obtain ⟨σ2', e, l, i, o⟩ := h.any σ2 fun b hb => h2 b (hs b hb)
    refine ⟨σ2', e, l, fun b hb => ?_, fun b hb => o b fun hm => hb (hs b hm)⟩
    by_cases hf : b ∈ F
    · exact i b hf
    · rw [o b hf, h2 b hb, h.off b hf]

theorem FrF.same {α : Type} {f : List (List AV) → Option (α × List (List AV))} {F : List Nat} {σ : List (List AV)} {a : α} (h : ∀ σ2, (∀ b ∈ F, σ2[b]? = σ[b]?) → f σ2 = some (a, σ2)) : FrF f F σ a σ where
  len := rfl
  off := fun _ _ => rfl
  any := fun σ2 h2 => ⟨σ2, h σ2 h2, rfl, h2, fun _ _ => rfl⟩

theorem FrF.bind {α β : Type} {f : List (List AV) → Option (α × List (List AV))} {g : α → List (List AV) → Option (β × List (List AV))} {F : List Nat} {σ σ1 σ2 : List (List AV)} {a : α} {b : β} (hf : FrF f F σ a σ1) (hg : FrF (g a) F σ1 b σ2) :
    FrF (fun σ => (f σ).bind fun x => g x.1 x.2) F σ b σ2 where
  len := hg.len.trans hf.len
  off := fun c hc => (hg.off c hc).trans (hf.off c hc)
  any := fun τ h => by
    obtain ⟨τ1, e1, l1, i1, o1⟩ := hf.any τ h
    obtain ⟨τ2, e2, l2, i2, o2⟩ := hg.any τ1 i1
    exact ⟨τ2, by simp only [e1, Option.bind_some, e2], l2.trans l1, i2, fun c hc => (o2 c hc).trans (o1 c hc)⟩

theorem FrF.map {α β : Type} {f : List (List AV) → Option (α × List (List AV))} {F : List Nat} {σ σ1 : List (List AV)} {a : α} (k : α → β) (hf : FrF f F σ a σ1) : FrF (fun σ => (f σ).map fun x => (k x.1, x.2)) F σ (k a) σ1 where
  len := hf.len
  off := hf.off
  any := fun τ h => by
    obtain ⟨τ1, e1, l1, i1, o1⟩ := hf.any τ h
    exact ⟨τ1, by simp only [e1, Option.map_some], l1, i1, o1⟩

theorem FrF.congr {α : Type} {f f' : List (List AV) → Option (α × List (List AV))} {F : List Nat} {σ σ1 : List (List AV)} {a : α} (h : ∀ σ, f σ = f' σ) (hf : FrF f F σ a σ1) : FrF f' F σ a σ1 := by
  have : f = f' := funext h
  exact this ▸ hf

theorem give_fr {σ σ' : List (List AV)} {v v' : AV} (h : give σ v = some (v', σ')) : FrF (fun σ => give σ v) v.block σ v' σ' ∧ ∀ b ∈ v.block, b < σ.length := by
  cases v with
  | loc b off =>
    simp only [give] at h
    obtain ⟨cs, hcs, h⟩ := Option.bind_eq_some_iff.1 h
    split at h
    · cases h
    · rename_i hne
      cases h
      have hlt := (List.getElem?_eq_some_iff.1 hcs).1
      refine ⟨⟨by simp, fun c hc => ?_, fun τ h => ⟨τ.set b [], ?_, by simp, fun c hc => ?_, fun c hc => ?_⟩⟩, fun c hc => by simp only [AV.block, List.mem_singleton] at hc; subst hc; exact hlt⟩
      · simp only [AV.block, List.mem_singleton] at hc
        exact List.getElem?_set_ne (Ne.symm hc)
      · have := h b (by simp [AV.block])
        simp only [give, this, hcs, Option.bind_some, if_neg hne]
      · simp only [AV.block, List.mem_singleton] at hc
        subst hc
        have := h c (by simp [AV.block])
        rw [hcs] at this
        rw [List.getElem?_set_self hlt, List.getElem?_set_self (List.getElem?_eq_some_iff.1 this).1]
      · simp only [AV.block, List.mem_singleton] at hc
        exact List.getElem?_set_ne (Ne.symm hc)
  | _ =>
    simp only [give] at h
    cases h
    exact ⟨.same fun σ2 _ => rfl, fun b hb => by simp [AV.block] at hb⟩

theorem gives_fr : ∀ (cs : List AV) {σ σ' : List (List AV)} {cs' : List AV}, gives σ cs = some (cs', σ') → FrF (fun σ => gives σ cs) (cs.flatMap AV.block) σ cs' σ' ∧ ∀ b ∈ cs.flatMap AV.block, b < σ.length
  | [], σ, σ', cs', h => by cases h; exact ⟨.same fun _ _ => rfl, fun b hb => by simp at hb⟩
  | v :: cs, σ, σ', cs', h => by
    simp only [gives, Option.bind_eq_some_iff, Option.map_eq_some_iff] at h
    obtain ⟨⟨v1, σ1⟩, h1, ⟨cs1, σ2⟩, h2, h3⟩ := h
    cases h3
    obtain ⟨f1, l1⟩ := give_fr h1
    obtain ⟨f2, l2⟩ := gives_fr cs h2
    have f1' := f1.mono (F' := (v :: cs).flatMap AV.block) fun b hb => by simp only [List.flatMap_cons, List.mem_append]; exact .inl hb
    have f2' := f2.mono (F' := (v :: cs).flatMap AV.block) fun b hb => by simp only [List.flatMap_cons, List.mem_append]; exact .inr hb
    refine ⟨(f1'.bind (g := fun x σ => (gives σ cs).map fun q => (x :: q.1, q.2)) (f2'.map (v1 :: ·))).congr fun σ => by simp only [gives], fun b hb => ?_⟩
    simp only [List.flatMap_cons, List.mem_append] at hb
    rcases hb with hb | hb
    · exact l1 b hb
    · rw [← f1.len]; exact l2 b hb

theorem handOne_fr {cx : Cx} {t : Nat} {refs refs' : List Nat} {σ σ' : List (List AV)} {v v' : AV} (h : handOne cx t refs σ v = some (v', refs', σ')) :
    FrF (fun σ => (handOne cx t refs σ v).map fun x => ((x.1, x.2.1), x.2.2)) v.locs σ (v', refs') σ' ∧ (∀ b ∈ v.locs, b < σ.length ∨ b ∈ refs') ∧ (∀ b ∈ refs', b ∈ refs ∨ b ∈ v.locs) ∧ ∀ b ∈ refs, b ∈ refs' := by
  unfold handOne at h ⊢
  cases v with
  | loc b off =>
    simp only at h ⊢
    split at h
    · cases h
    · rename_i ht
      simp only [if_neg ht]
      split at h
      · rename_i hr
        simp only [if_pos hr]
        split at h
        · rename_i hc
          cases h
          refine ⟨.same fun σ2 _ => by rw [if_pos hc]; rfl, fun c hc => .inr ?_, fun c hc => ?_, fun c hc => List.mem_append_left _ hc⟩
          · simp only [AV.locs, List.mem_singleton] at hc; subst hc; exact List.mem_append_right _ (by simp)
          · rcases List.mem_append.1 hc with h | h
            · exact .inl h
            · exact .inr (by simpa [AV.locs] using h)
        · cases h
      · rename_i hr
        simp only [if_neg hr]
        obtain ⟨⟨v1, σ1⟩, h1, h2⟩ := Option.map_eq_some_iff.1 h
        cases h2
        obtain ⟨f1, l1⟩ := give_fr h1
        exact ⟨(f1.map fun x => (x, refs)).congr fun σ => by simp only [Option.map_map, Function.comp_def], fun c hc => .inl (l1 c hc), fun c hc => .inl hc, fun c hc => hc⟩
  | fn f cs =>
    simp only at h ⊢
    split at h
    · cases h
    · rename_i ht
      simp only [if_neg ht]
      obtain ⟨⟨v1, σ1⟩, h1, h2⟩ := Option.map_eq_some_iff.1 h
      cases h2
      obtain ⟨f1, l1⟩ := gives_fr cs h1
      exact ⟨(f1.map fun x => (AV.fn f x, refs)).congr fun σ => by simp only [Option.map_map, Function.comp_def], fun c hc => .inl (l1 c hc), fun c hc => .inl hc, fun c hc => hc⟩
  | _ =>
    simp only at h ⊢
    cases h
    exact ⟨.same fun σ2 _ => rfl, fun b hb => by simp [AV.locs] at hb, fun c hc => .inl hc, fun c hc => hc⟩

theorem hand_fr {cx : Cx} : ∀ (args : List AV) {ts refs : List Nat} {σ : List (List AV)} {o : Over}, hand cx ts refs σ args = some o →
    FrF (fun σ => (hand cx ts refs σ args).map fun o => ((o.args, o.refs), o.σ)) (args.flatMap AV.locs) σ (o.args, o.refs) o.σ ∧ (∀ b ∈ args.flatMap AV.locs, b < σ.length ∨ b ∈ o.refs) ∧ (∀ b ∈ o.refs, b ∈ refs ∨ b ∈ args.flatMap AV.locs) ∧ ∀ b ∈ refs, b ∈ o.refs
  | [], ts, refs, σ, o, h => by
    simp only [hand] at h
    cases h
    exact ⟨.same fun _ _ => rfl, fun b hb => by simp at hb, fun b hb => .inl hb, fun b hb => hb⟩
  | v :: args, ts, refs, σ, o, h => by
    simp only [hand, Option.bind_eq_some_iff, Option.map_eq_some_iff] at h
    obtain ⟨⟨v1, r1, σ1⟩, h1, o1, h2, rfl⟩ := h
    obtain ⟨f1, l1, m1, s1⟩ := handOne_fr h1
    obtain ⟨f2, l2, m2, s2⟩ := hand_fr args h2
    have f1' := f1.mono (F' := (v :: args).flatMap AV.locs) fun b hb => by simp only [List.flatMap_cons, List.mem_append]; exact .inl hb
    have f2' := f2.mono (F' := (v :: args).flatMap AV.locs) fun b hb => by simp only [List.flatMap_cons, List.mem_append]; exact .inr hb
    refine ⟨(f1'.bind (g := fun x σ => ((hand cx ts.tail x.2 σ args).map fun o => ((o.args, o.refs), o.σ)).map fun q => ((x.1 :: q.1.1, q.1.2), q.2)) (f2'.map fun q => (v1 :: q.1, q.2))).congr fun σ => ?_, fun b hb => ?_, fun b hb => ?_, fun b hb => s2 b (s1 b hb)⟩
    · simp only [hand]
      cases handOne cx (ts.headD 0) refs σ v with
      | none => rfl
      | some x => simp only [Option.map_some, Option.bind_some, Option.map_map, Function.comp_def]
    · simp only [List.flatMap_cons, List.mem_append] at hb
      rcases hb with hb | hb
      · rcases l1 b hb with h | h
        · exact .inl h
        · exact .inr (s2 b h)
      · rcases l2 b hb with h | h
        · exact .inl (by rw [← f1.len]; exact h)
        · exact .inr h
    · simp only [List.flatMap_cons, List.mem_append]
      rcases m2 b hb with h | h
      · rcases m1 b h with h | h
        · exact .inl h
        · exact .inr (.inl h)
      · exact .inr (.inr h)

theorem putBack_off : ∀ (refs : List Nat) (css σ : List (List AV)) (b : Nat), b ∉ refs → (putBack σ refs css)[b]? = σ[b]?
  | [], css, σ, b, _ => by cases css <;> rfl
  | x :: bs, [], σ, b, _ => rfl
  | x :: bs, c :: css, σ, b, h => by
    simp only [List.mem_cons, not_or] at h
    simp only [putBack]
    rw [putBack_off bs css _ b h.2, List.getElem?_set_ne (Ne.symm h.1)]

theorem putBack_on : ∀ (refs : List Nat) (css σ τ : List (List AV)) (F : List Nat), (∀ b ∈ F, τ[b]? = σ[b]?) → (∀ b ∈ refs, b ∈ F) → ∀ b ∈ F, (putBack τ refs css)[b]? = (putBack σ refs css)[b]?
  | [], css, σ, τ, F, h, _ => by cases css <;> exact h
  | x :: bs, [], σ, τ, F, h, _ => h
  | x :: bs, c :: css, σ, τ, F, h, hs => by
    simp only [putBack]
    refine putBack_on bs css _ _ F (fun b hb => ?_) fun b hb => hs b (by simp [hb])
    simp only [List.getElem?_set]
    by_cases hxb : x = b
    · subst hxb
      have e := h x hb
      simp only [if_true]
      by_cases h1 : x < τ.length
      · have h2 : x < σ.length := by
          rw [List.getElem?_eq_getElem h1] at e
          exact (List.getElem?_eq_some_iff.1 e.symm).1
        rw [if_pos h1, if_pos h2]
      · have h2 : ¬ x < σ.length := fun h2 => h1 (by
          rw [List.getElem?_eq_getElem h2] at e
          exact (List.getElem?_eq_some_iff.1 e).1)
        rw [if_neg h1, if_neg h2]
    · rw [if_neg hxb, if_neg hxb]; exact h b hb

theorem callT_fr {cx : Cx} {C : Oracle} {S S' : St} {f : Nat} {args : List AV} {v : AV} (h : callT cx C S f args = some (v, S')) :
    S'.tk = S.tk ∧ FrF (fun σ => (callT cx C ⟨σ, S.tk⟩ f args).map fun x => (x.1, x.2.σ)) (args.flatMap AV.locs) S.σ v S'.σ ∧ (∀ b ∈ args.flatMap AV.locs, b < S.σ.length) ∧ ∀ σ tk v S2, callT cx C ⟨σ, tk⟩ f args = some (v, S2) → S2.tk = tk ∧ ∀ tk', callT cx C ⟨σ, tk'⟩ f args = some (v, ⟨S2.σ, tk'⟩) := by
  refine ⟨?_, ?_⟩
  · simp only [callT, Option.bind_eq_some_iff] at h
    obtain ⟨fn, hf, o, ho, h⟩ := h
    split at h
    · cases h
    · obtain ⟨x, hx, h⟩ := Option.map_eq_some_iff.1 h
      cases h; rfl
  refine ⟨?_, ?_, fun σ tk v S2 h => ?_⟩
  · have h0 := h
    simp only [callT, Option.bind_eq_some_iff] at h
    obtain ⟨fn, hf, o, ho, h⟩ := h
    split at h
    · cases h
    · rename_i hne
      obtain ⟨⟨r, σ1⟩, hc, h⟩ := Option.map_eq_some_iff.1 h
      cases h
      obtain ⟨f1, l1, m1, s1⟩ := hand_fr args ho
      have hsub : ∀ b ∈ o.refs, b ∈ args.flatMap AV.locs := fun b hb => (m1 b hb).resolve_left (by simp)
      refine ⟨by simp only [putBack_length, f1.len], fun b hb => ?_, fun τ hτ => ?_⟩
      · rw [putBack_off o.refs σ1 o.σ b fun hm => hb (hsub b hm)]
        exact f1.off b hb
      · obtain ⟨τ1, e1, q1, i1, o1⟩ := f1.any τ hτ
        obtain ⟨o2, ho2, e2⟩ := Option.map_eq_some_iff.1 e1
        obtain ⟨oa, orr, oσ⟩ := o2
        simp only [Prod.mk.injEq] at e2
        obtain ⟨⟨rfl, rfl⟩, rfl⟩ := e2
        have hcells : ∀ b ∈ o.refs, (oσ[b]?).getD [] = (o.σ[b]?).getD [] := fun b hb => by rw [i1 b (hsub b hb)]
        refine ⟨putBack oσ o.refs σ1, ?_, by rw [putBack_length, q1], fun b hb => ?_, fun b hb => ?_⟩
        · simp only [callT, hf, Option.bind_some, ho2]
          have hne2 : ¬ (o.refs.any fun b => ((oσ[b]?).getD []).isEmpty) = true := fun h => hne (by
            obtain ⟨b, hb, h⟩ := List.any_eq_true.1 h
            exact List.any_eq_true.2 ⟨b, hb, by rw [← hcells b hb]; exact h⟩)
          rw [if_neg hne2]
          have hm : (o.refs.map fun b => ((oσ[b]?).getD []).map dd) = o.refs.map fun b => ((o.σ[b]?).getD []).map dd := List.map_congr_left fun b hb => by rw [hcells b hb]
          rw [hm, hc]
          rfl
        · exact putBack_on o.refs σ1 o.σ oσ (args.flatMap AV.locs) i1 hsub b hb
        · rw [putBack_off o.refs σ1 oσ b fun hm => hb (hsub b hm)]
          exact o1 b hb
  · intro b hb
    simp only [callT, Option.bind_eq_some_iff] at h
    obtain ⟨fn, hf, o, ho, h⟩ := h
    split at h
    · cases h
    · rename_i hne
      obtain ⟨f1, l1, m1, s1⟩ := hand_fr args ho
      rcases l1 b hb with h | h
      · exact h
      · rw [← f1.len]
        refine Nat.lt_of_not_le fun hle => hne (List.any_eq_true.2 ⟨b, h, ?_⟩)
        rw [List.getElem?_eq_none hle]; rfl
  · simp only [callT, Option.bind_eq_some_iff] at h
    obtain ⟨fn, hf, o, ho, h⟩ := h
    split at h
    · cases h
    · rename_i hne
      obtain ⟨x, hx, h⟩ := Option.map_eq_some_iff.1 h
      cases h
      refine ⟨rfl, fun tk' => ?_⟩
      simp only [callT, hf, Option.bind_some, ho, if_neg hne, hx, Option.map_some]

end M
end Go.Proofs.YthclcchnodjjpaaGreatDoor
/- SOUNDNESS 13: two operations that may change places. -/
set_option linter.unusedVariables false
set_option linter.unusedSimpArgs false
namespace Go.Proofs.YthclcchnodjjpaaGreatDoor
namespace M

structure FrO (cx : Cx) (C : Oracle) (r : Regs) (op : Op) (F : List Nat) (S : St) (v : AV) (S' : St) : Prop where
  tk : S'.tk = S.tk
  len : S'.σ.length = S.σ.length
  lt : ∀ b ∈ F, b < S.σ.length
  off : ∀ b, b ∉ F → S'.σ[b]? = S.σ[b]?
  any : ∀ S2 : St, (∀ b ∈ F, S2.σ[b]? = S.σ[b]?) → ∃ σ2, opT cx C r S2 op = some (v, ⟨σ2, S2.tk⟩) ∧ σ2.length = S2.σ.length ∧ (∀ b ∈ F, σ2[b]? = S'.σ[b]?) ∧ ∀ b, b ∉ F → σ2[b]? = S2.σ[b]?

theorem load_fr {cx : Cx} {C : Oracle} {r : Regs} {S S' : St} {o : Oper} {v : AV} (hk : kd cx o.op = .load) (h : opT cx C r S o.op = some (v, S')) : S' = S ∧ FrO cx C r o.op (foot r o) S v S' := by
  obtain ⟨dst, op, type, pos, after, guard⟩ := o
  simp only at hk h ⊢
  cases op
  case load t a =>
    simp only [opT, Option.bind_eq_some_iff, Option.map_eq_some_iff] at h
    obtain ⟨p, hp, v', h1, h2⟩ := h
    cases h2
    refine ⟨rfl, rfl, rfl, ?_, fun _ _ => rfl, fun S2 hag => ⟨S2.σ, ?_, rfl, hag, fun _ _ => rfl⟩⟩
    · simp only [foot, hp, Option.map_some, Option.getD_some]
      intro b hb
      cases p with
      | loc c off =>
        simp only [AV.block, List.mem_singleton] at hb
        subst hb
        simp only [loadT, Option.bind_eq_some_iff] at h1
        obtain ⟨ti, _, cs, hcs, _⟩ := h1
        exact (List.getElem?_eq_some_iff.1 hcs).1
      | _ => simp [AV.block] at hb
    · simp only [opT, hp, Option.bind_some, Option.map_eq_some_iff]
      refine ⟨v, ?_, rfl⟩
      cases p with
      | loc c off =>
        have := hag c (by simp only [foot, hp, Option.map_some, Option.getD_some, AV.block, List.mem_singleton])
        simp only [loadT, this]
        exact h1
      | _ => exact h1
  case box t x => simp only [kd] at hk; split at hk <;> cases hk
  case call c =>
    simp only [kd] at hk
    split at hk
    · cases hk
    · cases hk
    · split at hk
      · cases hk
      · split at hk <;> cases hk
    · cases hk
  all_goals (simp only [kd] at hk; cases hk)

theorem write_fr {cx : Cx} {C : Oracle} {r : Regs} {S S' : St} {o : Oper} {v : AV} (hk : kd cx o.op = .write) (h : opT cx C r S o.op = some (v, S')) : FrO cx C r o.op (foot r o) S v S' := by
  obtain ⟨dst, op, type, pos, after, guard⟩ := o
  simp only at hk h ⊢
  cases op
  case store t a x =>
    simp only [opT, Option.bind_eq_some_iff, Option.map_eq_some_iff] at h
    obtain ⟨p, hp, y, hy, S1, h1, h2⟩ := h
    cases h2
    unfold storeT at h1
    split at h1
    · rename_i b off
      obtain ⟨ti, hti, h1⟩ := Option.bind_eq_some_iff.1 h1
      obtain ⟨cs, hcs, h1⟩ := Option.bind_eq_some_iff.1 h1
      split at h1
      · rename_i hc
        cases h1
        have hF : foot r ⟨dst, .store t a x, type, pos, after, guard⟩ = [b] := by simp only [foot, hp, Option.map_some, Option.getD_some, AV.block]
        have hlt := (List.getElem?_eq_some_iff.1 hcs).1
        rw [hF]
        refine ⟨rfl, by simp, fun c hc => by simp only [List.mem_singleton] at hc; subst hc; exact hlt, fun c hc => ?_, fun S2 hag => ⟨S2.σ.set b (splice cs off y.cells), ?_, by simp, fun c hc => ?_, fun c hc => ?_⟩⟩
        · simp only [List.mem_singleton] at hc
          exact List.getElem?_set_ne (Ne.symm hc)
        · have := hag b (by simp)
          simp only [opT, hp, hy, Option.bind_some, storeT, hti, this, hcs, if_pos hc, Option.map_some]
        · simp only [List.mem_singleton] at hc
          subst hc
          have := hag c (by simp)
          rw [hcs] at this
          simp only [List.getElem?_set_self hlt, List.getElem?_set_self (List.getElem?_eq_some_iff.1 this).1]
        · simp only [List.mem_singleton] at hc
          exact List.getElem?_set_ne (Ne.symm hc)
      · cases h1
    · cases h1
  case box t x => simp only [kd] at hk; split at hk <;> cases hk
  case call c =>
    simp only [opT, Option.bind_eq_some_iff] at h
    obtain ⟨args, ha, h⟩ := h
    split at h
    · rename_i b hb
      simp only [kd, hb] at hk
      cases b <;> cases hk
    · rename_i x hb
      cases hmo : mkOp cx x with
      | some g =>
        exfalso
        unfold mkOp at hmo
        split at hmo
        · split at hmo
          · rename_i hm
            simp only [kd, hb, if_pos hm] at hk
            cases hk
          · cases hmo
        · cases hmo
      | none =>
        rw [hmo] at h
        obtain ⟨f, hf, h⟩ := Option.bind_eq_some_iff.1 h
        unfold applyT at h
        split at h
        · rename_i fi cap
          split at h
          · cases h
          · rename_i hm
            obtain ⟨q1, q2, q3, q4⟩ := callT_fr h
            have hF : foot r ⟨dst, .call c, type, pos, after, guard⟩ = (args ++ cap).flatMap AV.locs := by
              simp only [foot, ha, Option.map_some, Option.getD_some, hb, hf, List.flatMap_append]
            rw [hF]
            refine ⟨q1, q2.len, q3, q2.off, fun S2 hag => ?_⟩
            obtain ⟨σ2, e, l, i, o⟩ := q2.any S2.σ hag
            obtain ⟨⟨v2, S3⟩, h3, h4⟩ := Option.map_eq_some_iff.1 e
            simp only [Prod.mk.injEq] at h4
            obtain ⟨rfl, rfl⟩ := h4
            obtain ⟨_, h5⟩ := q4 _ _ _ _ h3
            refine ⟨S3.σ, ?_, l, i, o⟩
            simp only [opT, ha, hb, hmo, hf, Option.bind_some, applyT, if_neg hm]
            exact h5 S2.tk
        · cases h
    · cases h
  all_goals (simp only [kd] at hk; cases hk)

theorem alloc_fr {cx : Cx} {C : Oracle} {r : Regs} {S S' : St} {op : Op} {v : AV} (hk : kd cx op = .alloc) (h : opT cx C r S op = some (v, S')) :
    ∃ z, S' = ⟨S.σ ++ [z], S.tk⟩ ∧ v.made = [S.σ.length] ∧ ∀ S2 : St, S2.σ.length = S.σ.length → opT cx C r S2 op = some (v, ⟨S2.σ ++ [z], S2.tk⟩) := by
  cases op
  case alloc t =>
    simp only [opT, Option.bind_eq_some_iff] at h
    obtain ⟨ti, ht, h⟩ := h
    split at h
    · rename_i hc
      cases h
      exact ⟨_, rfl, rfl, fun S2 hl => by simp only [opT, ht, Option.bind_some, if_pos hc, hl]⟩
    · cases h
  case box t x =>
    simp only [kd] at hk
    split at hk
    · cases hk
    · rename_i him
      simp only [opT, Option.bind_eq_some_iff] at h
      obtain ⟨x', hx, h⟩ := h
      split at h
      · rename_i hc
        cases h
        exact ⟨_, rfl, rfl, fun S2 hl => by simp only [opT, hx, Option.bind_some, if_pos hc, if_neg him, hl]⟩
      · cases h
  case makeSlice t l c =>
    simp only [opT, Option.bind_eq_some_iff] at h
    obtain ⟨l', hl, c', hc, h⟩ := h
    simp only [makeSliceT, Option.bind_eq_some_iff] at h
    obtain ⟨ti, ht, h⟩ := h
    split at h
    · rename_i e he
      simp only [Option.bind_eq_some_iff] at h
      obtain ⟨te, hte, n, hn, m, hm, h⟩ := h
      split at h
      · rename_i hcn
        cases h
        exact ⟨_, rfl, rfl, fun S2 hl2 => by simp only [opT, hl, hc, Option.bind_some, makeSliceT, ht, he, hte, hn, hm, if_pos hcn, hl2]⟩
      · cases h
    · cases h
  case call c =>
    simp only [kd] at hk
    split at hk
    · cases hk
    · cases hk
    · split at hk
      · cases hk
      · split at hk <;> cases hk
    · cases hk
  all_goals (simp only [kd] at hk; cases hk)

theorem append_fr {cx : Cx} {C : Oracle} {r : Regs} {S S' : St} {op : Op} {v : AV} (hk : kd cx op = .append) (h : opT cx C r S op = some (v, S')) :
    S'.σ = S.σ ∧ ∀ S2 : St, S2.tk = S.tk → opT cx C r S2 op = some (v, ⟨S2.σ, S'.tk⟩) := by
  cases op
  case box t x => simp only [kd] at hk; split at hk <;> cases hk
  case call c =>
    simp only [opT, Option.bind_eq_some_iff] at h
    obtain ⟨args, ha, h⟩ := h
    simp only [kd] at hk
    split at hk
    · rename_i hb
      simp only [hb, builtinT] at h
      split at h
      · cases ‹Builtin.append = Builtin.len›
      · rename_i t t' s x hts
        split at h
        · rename_i htt
          have h0 := h
          simp only [appendT, Option.bind_eq_some_iff] at h
          obtain ⟨ti, ht, h⟩ := h
          split at h
          · rename_i e he
            obtain ⟨te, hte, h⟩ := Option.bind_eq_some_iff.1 h
            split at h
            · split at h
              · rename_i es o _ xs _ _
                unfold appendE at h
                have fin : ∀ S2 : St, appendE te S2 es o xs = some (v, ⟨S2.σ, S'.tk⟩) → opT cx C r S2 (.call c) = some (v, ⟨S2.σ, S'.tk⟩) := fun S2 h2 => by
                  simp only [opT, ha, Option.bind_some, hb, builtinT, hts, if_pos htt, appendT, ht, he, hte]
                  exact h2
                by_cases hx : xs = []
                · rw [if_pos hx] at h
                  cases h
                  exact ⟨rfl, fun S2 hs => fin S2 (by unfold appendE; rw [if_pos hx, ← hs])⟩
                · rw [if_neg hx] at h
                  split at h
                  · rename_i hc
                    cases o with
                    | full =>
                      cases h
                      exact ⟨rfl, fun S2 hs => fin S2 (by unfold appendE; simp only [if_neg hx, if_pos hc, hs])⟩
                    | tok n vv =>
                      simp only at h
                      split at h
                      · rename_i hcc
                        cases h
                        refine ⟨rfl, fun S2 hs => fin S2 ?_⟩
                        unfold appendE
                        rw [if_neg hx, if_pos hc]
                        simp only [hs]
                        rw [if_pos hcc]
                      · cases h
                    | dead => cases h
                  · cases h
              · cases h
            · cases h
          · cases h
        · cases h
      · cases ‹Builtin.append = Builtin.max›
      · cases ‹Builtin.append = Builtin.min›
      · cases h
    · cases hk
    · split at hk
      · cases hk
      · split at hk <;> cases hk
    · cases hk
  all_goals (simp only [kd] at hk; cases hk)

/-- Kinds that may change places whatever they touch; and if they touch different blocks. -/
def freeK : Kd → Kd → Bool
  | .pure, _ | _, .pure | .load, .load | .load, .alloc | .write, .alloc => true
  | .append, .append => false
  | .other, _ | _, .other => false
  | .append, _ | _, .append => true
  | _, _ => false
def looseK : Kd → Kd → Bool
  | .load, .write | .write, .load | .write, .write | .alloc, .load | .alloc, .write => true
  | _, _ => false

theorem swap_op {cx : Cx} {C : Oracle} {r : Regs} {S S1 S2 : St} {oj oi : Oper} {vj vi : AV} (hj : opT cx C r S oj.op = some (vj, S1)) (hi : opT cx C r S1 oi.op = some (vi, S2))
    (hk : freeK (kd cx oj.op) (kd cx oi.op) = true ∨ (looseK (kd cx oj.op) (kd cx oi.op) = true ∧ (kd cx oj.op ≠ .alloc → ∀ b ∈ foot r oj, b ∉ foot r oi) ∧ (kd cx oj.op = .alloc → ∀ b ∈ vj.made, b ∉ foot r oi))) :
    ∃ S1', opT cx C r S oi.op = some (vi, S1') ∧ opT cx C r S1' oj.op = some (vj, S2) := by
  have framed : ∀ {o : Oper} {S S' : St} {v : AV}, (kd cx o.op = .load ∨ kd cx o.op = .write) → opT cx C r S o.op = some (v, S') → FrO cx C r o.op (foot r o) S v S' := fun hk h => by
    rcases hk with hk | hk
    · exact (load_fr hk h).2
    · exact write_fr hk h
  have two : (∀ b ∈ foot r oj, b ∉ foot r oi) → FrO cx C r oj.op (foot r oj) S vj S1 → FrO cx C r oi.op (foot r oi) S1 vi S2 → ∃ S1', opT cx C r S oi.op = some (vi, S1') ∧ opT cx C r S1' oj.op = some (vj, S2) := by
    intro hd fj fi
    obtain ⟨σ', e1, l1, i1, o1⟩ := fi.any S fun b hb => (fj.off b fun hm => hd b hm hb).symm
    obtain ⟨σ'', e2, l2, i2, o2⟩ := fj.any ⟨σ', S.tk⟩ fun b hb => o1 b (hd b hb)
    refine ⟨_, e1, ?_⟩
    rw [e2]
    have : σ'' = S2.σ := by
      apply List.ext_getElem?
      intro b
      by_cases hbj : b ∈ foot r oj
      · rw [i2 b hbj, fi.off b (hd b hbj)]
      · rw [o2 b hbj]
        by_cases hbi : b ∈ foot r oi
        · exact i1 b hbi
        · rw [o1 b hbi, fi.off b hbi, fj.off b hbj]
    subst this
    have htk : S2.tk = S.tk := fi.tk.trans fj.tk
    rw [← htk]
  have frAlloc : FrO cx C r oj.op (foot r oj) S vj S1 → kd cx oi.op = .alloc → ∃ S1', opT cx C r S oi.op = some (vi, S1') ∧ opT cx C r S1' oj.op = some (vj, S2) := by
    intro fj ka
    obtain ⟨z, rfl, _, hany⟩ := alloc_fr ka hi
    refine ⟨_, hany S fj.len.symm, ?_⟩
    obtain ⟨σ'', e2, l2, i2, o2⟩ := fj.any ⟨S.σ ++ [z], S.tk⟩ fun b hb => List.getElem?_append_left (fj.lt b hb)
    rw [e2]
    have : σ'' = S1.σ ++ [z] := by
      apply List.ext_getElem?
      intro b
      by_cases hbj : b ∈ foot r oj
      · rw [i2 b hbj, List.getElem?_append_left (by rw [fj.len]; exact fj.lt b hbj)]
      · rw [o2 b hbj]
        simp only [List.getElem?_append, fj.len]
        split
        · exact (fj.off b hbj).symm
        · rfl
    rw [this, fj.tk]
  rcases hk with hk | ⟨hk, hd, hda⟩
  · by_cases kj : kd cx oj.op = .pure
    · obtain ⟨rfl, hp⟩ := pure_spec kj hj
      exact ⟨S2, hi, hp S2⟩
    by_cases ki : kd cx oi.op = .pure
    · obtain ⟨rfl, hp⟩ := pure_spec ki hi
      exact ⟨S, hp S, hj⟩
    have apj : kd cx oj.op = .append → kd cx oi.op = .load ∨ kd cx oi.op = .write → ∃ S1', opT cx C r S oi.op = some (vi, S1') ∧ opT cx C r S1' oj.op = some (vj, S2) := by
      intro ka kf
      obtain ⟨e1, hany⟩ := append_fr ka hj
      have fi := framed kf hi
      obtain ⟨σ', e2, l2, i2, o2⟩ := fi.any S fun b hb => by rw [e1]
      refine ⟨_, e2, ?_⟩
      rw [hany ⟨σ', S.tk⟩ rfl]
      have : σ' = S2.σ := by
        apply List.ext_getElem?
        intro b
        by_cases hbi : b ∈ foot r oi
        · exact i2 b hbi
        · rw [o2 b hbi, fi.off b hbi, e1]
      rw [this, ← fi.tk]
    have api : kd cx oi.op = .append → kd cx oj.op = .load ∨ kd cx oj.op = .write → ∃ S1', opT cx C r S oi.op = some (vi, S1') ∧ opT cx C r S1' oj.op = some (vj, S2) := by
      intro ka kf
      obtain ⟨e1, hany⟩ := append_fr ka hi
      have fj := framed kf hj
      refine ⟨_, hany S fj.tk.symm, ?_⟩
      obtain ⟨σ', e2, l2, i2, o2⟩ := fj.any ⟨S.σ, S2.tk⟩ fun b hb => rfl
      rw [e2]
      have : σ' = S2.σ := by
        rw [e1]
        apply List.ext_getElem?
        intro b
        by_cases hbj : b ∈ foot r oj
        · exact i2 b hbj
        · rw [o2 b hbj]; exact (fj.off b hbj).symm
      rw [this]
    cases hkj : kd cx oj.op <;> cases hki : kd cx oi.op <;> rw [hkj, hki] at hk <;> simp only [freeK, Bool.false_eq_true] at hk <;> (try (exact absurd hkj kj)) <;> (try (exact absurd hki ki))
    · obtain ⟨rfl, _⟩ := load_fr hkj hj
      obtain ⟨rfl, _⟩ := load_fr hki hi
      exact ⟨_, hi, hj⟩
    · exact frAlloc (framed (.inl hkj) hj) hki
    · exact api hki (.inl hkj)
    · -- alloc, append
      obtain ⟨z, rfl, _, hany⟩ := alloc_fr hkj hj
      obtain ⟨e1, ha⟩ := append_fr hki hi
      refine ⟨_, ha S rfl, ?_⟩
      rw [hany ⟨S.σ, S2.tk⟩ rfl]
      simp only at e1 ⊢
      rw [← e1]
    · exact frAlloc (framed (.inr hkj) hj) hki
    · exact api hki (.inr hkj)
    · exact apj hkj (.inl hki)
    · -- append, alloc
      obtain ⟨e1, ha⟩ := append_fr hkj hj
      obtain ⟨z, rfl, _, hany⟩ := alloc_fr hki hi
      refine ⟨_, hany S (by rw [e1]), ?_⟩
      rw [ha ⟨S.σ ++ [z], S.tk⟩ rfl, e1]
    · exact apj hkj (.inr hki)
  · cases hkj : kd cx oj.op <;> cases hki : kd cx oi.op <;> rw [hkj, hki] at hk <;> simp only [looseK, Bool.false_eq_true] at hk
    · exact two (hd (by simp [hkj])) (framed (.inl hkj) hj) (framed (.inr hki) hi)
    all_goals first
      | exact two (hd (by simp [hkj])) (framed (.inr hkj) hj) (framed (.inl hki) hi)
      | exact two (hd (by simp [hkj])) (framed (.inr hkj) hj) (framed (.inr hki) hi)
      | skip
    all_goals
      obtain ⟨z, rfl, hm, hany⟩ := alloc_fr hkj hj
      have fi : FrO cx C r oi.op (foot r oi) ⟨S.σ ++ [z], S.tk⟩ vi S2 := framed (by first | exact .inl hki | exact .inr hki) hi
      have hn : S.σ.length ∉ foot r oi := hda hkj S.σ.length (by rw [hm]; simp)
      have hlt : ∀ b ∈ foot r oi, b < S.σ.length := fun b hb => by
        have h1 := fi.lt b hb
        simp only [List.length_append, List.length_singleton] at h1
        have h2 : b ≠ S.σ.length := fun e => hn (e ▸ hb)
        omega
      obtain ⟨σ', e1, l1, i1, o1⟩ := fi.any S fun b hb => (List.getElem?_append_left (hlt b hb)).symm
      refine ⟨_, e1, ?_⟩
      rw [hany ⟨σ', S.tk⟩ l1]
      have : σ' ++ [z] = S2.σ := by
        apply List.ext_getElem?
        intro b
        by_cases hbi : b ∈ foot r oi
        · rw [List.getElem?_append_left (by rw [l1]; exact hlt b hbi)]; exact i1 b hbi
        · rw [fi.off b hbi]
          simp only [List.getElem?_append, l1]
          split
          · exact o1 b hbi
          · rfl
      rw [this]
      have htk : S2.tk = S.tk := fi.tk
      rw [← htk]

end M
end Go.Proofs.YthclcchnodjjpaaGreatDoor
/- SOUNDNESS 14: regions without an order. -/
set_option linter.unusedVariables false
set_option linter.unusedSimpArgs false
namespace Go.Proofs.YthclcchnodjjpaaGreatDoor
namespace M

/-! ### Registers that later operations leave alone -/
theorem putT_other {r : Regs} {dst : Option Nat} {v : AV} {t : Nat} (h : dst ≠ some t) : (putT r dst v).getD t (.tup []) = r.getD t (.tup []) := by
  cases dst with
  | none => rfl
  | some d =>
    have hne : d ≠ t := fun e => h (by rw [e])
    simp only [putT, List.getD, List.getElem?_set_ne hne]

theorem stepT_put {cx : Cx} {C : Oracle} {ops : Array Oper} {o : Oper} {r r' : Regs} {S S' : St} (h : stepT cx C ops o r S = some (r', S')) : ∃ v, r' = putT r o.dst v := by
  simp only [stepT, Option.bind_eq_some_iff] at h
  obtain ⟨b, _, h⟩ := h
  split at h
  · obtain ⟨x, _, h⟩ := Option.map_eq_some_iff.1 h
    cases h; exact ⟨_, rfl⟩
  · cases h; exact ⟨_, rfl⟩

theorem opsT_keeps {cx : Cx} {C : Oracle} {ops : Array Oper} {t : Nat} : ∀ (l : List Oper) {r r' : Regs} {S S' : St}, opsT cx C ops l r S = some (r', S') → (∀ o ∈ l, o.dst ≠ some t) → r'.getD t (.tup []) = r.getD t (.tup [])
  | [], r, r', S, S', h, _ => by cases h; rfl
  | o :: l, r, r', S, S', h, hd => by
    simp only [opsT, Option.bind_eq_some_iff] at h
    obtain ⟨⟨r1, S1⟩, h1, h2⟩ := h
    obtain ⟨v, rfl⟩ := stepT_put h1
    rw [opsT_keeps l h2 fun o ho => hd o (by simp [ho]), putT_other (hd o (by simp))]

theorem ev_keeps {r r' : Regs} {x : Operand} (h : ∀ t, x = .tmp t → r'.getD t (.tup []) = r.getD t (.tup [])) : ev r' x = ev r x := by
  cases x with
  | tmp t => simp only [ev, h t rfl]
  | _ => rfl

theorem wantedT_put {ops : Array Oper} {r : Regs} {o : Oper} {dst : Option Nat} {v : AV} (h : ∀ d, dst = some d → d ∉ o.looksAt ops) : wantedT ops (putT r dst v) o = wantedT ops r o := by
  cases dst with
  | none => rfl
  | some d =>
    unfold wantedT
    cases hg : o.guard with
    | none => rfl
    | some jw =>
      obtain ⟨j, want⟩ := jw
      simp only
      cases hd : (ops[j]?).bind (·.dst) with
      | none => rfl
      | some t =>
        have hne : d ≠ t := fun e => h d rfl (by subst e; simp [Oper.looksAt, hg, hd])
        simp only [putT, List.getElem?_set_ne hne]

theorem opT_put {cx : Cx} {C : Oracle} {ops : Array Oper} {r : Regs} {S : St} {o : Oper} {dst : Option Nat} {v : AV} (h : ∀ d, dst = some d → d ∉ o.looksAt ops) : opT cx C (putT r dst v) S o.op = opT cx C r S o.op :=
  opT_congr o.op fun x hx => ev_keeps fun t ht => putT_other fun e => h t e (by
    subst ht
    exact List.mem_append_left _ (List.mem_filterMap.2 ⟨.tmp t, by simpa using hx, rfl⟩))

/-- The final registers say that the two do not meet. -/
def Dis (r : Regs) (x y : Oper) : Prop := ((match x.op with | .alloc _ | .box _ _ | .makeSlice _ _ _ => !(foot r x).isEmpty | _ => true) = true) ∧ ∀ b ∈ foot r x, b ∉ foot r y

/-- Nothing later writes what the operation looks at, or its result. -/
def Stays (ops : Array Oper) (o : Oper) (later : List Oper) : Prop := ∀ k ∈ later, ∀ d, k.dst = some d → d ∉ o.looksAt ops ∧ o.dst ≠ some d
def Own1 (ops : Array Oper) (o : Oper) : Prop := ∀ d, o.dst = some d → d ∉ o.looksAt ops

theorem looks_mem {ops : Array Oper} {o : Oper} {t : Nat} (h : Operand.tmp t ∈ o.op.operands) : t ∈ o.looksAt ops :=
  List.mem_append_left _ (List.mem_filterMap.2 ⟨.tmp t, by simpa using h, rfl⟩)

theorem foot_congr' {cx : Cx} {r r' : Regs} {o : Oper} (hk : kd cx o.op = .load ∨ kd cx o.op = .write) (h : ∀ x ∈ o.op.operands, ev r x = ev r' x) : foot r o = foot r' o := by
  obtain ⟨dst, op, type, pos, after, guard⟩ := o
  simp only at hk h
  cases op
  case load t a => simp only [foot]; rw [h a (by simp [Op.operands])]
  case store t a x => simp only [foot]; rw [h a (by simp [Op.operands])]
  case alloc t => simp only [kd] at hk; rcases hk with hk | hk <;> cases hk
  case makeSlice t l c => simp only [kd] at hk; rcases hk with hk | hk <;> cases hk
  case box t x => simp only [kd] at hk; split at hk <;> rcases hk with hk | hk <;> cases hk
  case call c =>
    simp only [foot]
    rw [evs_congr (r := r) (r' := r') (xs := c.args.toList) fun x hx => h x (by simp only [Op.operands, Call.operands, Array.mem_append]; exact .inr (by simpa using hx))]
    cases hc : c.callee with
    | value f => simp only [hc]; rw [h f (by simp [Op.operands, Call.operands, hc])]
    | _ => simp only [hc]
  all_goals (simp only [foot])

theorem alloc_foot {cx : Cx} {o : Oper} (hk : kd cx o.op = .alloc) : (∀ r, foot r o = (o.dst.map fun d => (r.getD d (.tup [])).made).getD []) ∧ ∀ r, (match o.op with | .alloc _ | .box _ _ | .makeSlice _ _ _ => !(foot r o).isEmpty | _ => true) = !(foot r o).isEmpty := by
  obtain ⟨dst, op, type, pos, after, guard⟩ := o
  simp only at hk
  cases op
  case alloc t => exact ⟨fun r => rfl, fun r => rfl⟩
  case makeSlice t l c => exact ⟨fun r => rfl, fun r => rfl⟩
  case box t x => exact ⟨fun r => rfl, fun r => rfl⟩
  case call c =>
    simp only [kd] at hk
    split at hk
    · cases hk
    · cases hk
    · split at hk
      · cases hk
      · split at hk <;> cases hk
    · cases hk
  all_goals (simp only [kd] at hk; cases hk)

theorem swap_step {cx : Cx} {C : Oracle} {ops : Array Oper} {oj oi : Oper} (hap : oj.apart ops oi = true) {rest : List Oper} {r : Regs} {S : St} {X : Regs × St} (h : opsT cx C ops (oj :: oi :: rest) r S = some X)
    (hk : freeK (kd cx oj.op) (kd cx oi.op) = true ∨ (looseK (kd cx oj.op) (kd cx oi.op) = true ∧ Dis X.1 oj oi ∧ Stays ops oj rest ∧ Stays ops oi rest ∧ Own1 ops oj ∧ Own1 ops oi)) : opsT cx C ops (oi :: oj :: rest) r S = some X := by
  obtain ⟨p1, p2, p3⟩ := Oper.apart_spec hap
  simp only [opsT, Option.bind_eq_some_iff] at h
  obtain ⟨⟨r1, S1⟩, hj, ⟨r2, S2⟩, hi, hrest⟩ := h
  simp only at hi hrest
  have comm : ∀ (v u : AV), putT (putT r oj.dst v) oi.dst u = putT (putT r oi.dst u) oj.dst v := by
    intro v u
    cases h1 : oj.dst with
    | none => rfl
    | some d =>
      cases h2 : oi.dst with
      | none => rfl
      | some e =>
        have hne : d ≠ e := fun e' => p2 d h1 (by rw [h2, e'])
        simp only [putT, List.set_comm _ _ hne]
  simp only [stepT, Option.bind_eq_some_iff] at hj hi
  obtain ⟨bj, wj, hj⟩ := hj
  obtain ⟨bi, wi, hi⟩ := hi
  have fin : ∀ {q : Regs × St}, stepT cx C ops oi r S = some q → stepT cx C ops oj q.1 q.2 = some (r2, S2) → opsT cx C ops (oi :: oj :: rest) r S = some X := by
    intro q h1 h2
    simp only [opsT, h1, Option.bind_some, h2, hrest]
  cases bj with
  | false =>
    simp only [Bool.false_eq_true, if_false, Option.some.injEq, Prod.mk.injEq] at hj
    obtain ⟨rfl, rfl⟩ := hj
    rw [wantedT_put p1] at wi
    cases bi with
    | false =>
      simp only [Bool.false_eq_true, if_false, Option.some.injEq, Prod.mk.injEq] at hi
      obtain ⟨rfl, rfl⟩ := hi
      refine fin (q := (putT r oi.dst (.tup []), S)) (by simp only [stepT, wi, Option.bind_some, Bool.false_eq_true, if_false]) ?_
      simp only [stepT, wantedT_put p3, wj, Option.bind_some, Bool.false_eq_true, if_false, comm]
    | true =>
      simp only [if_true, Option.map_eq_some_iff, Prod.mk.injEq] at hi
      obtain ⟨⟨vi, S3⟩, hi, rfl, rfl⟩ := hi
      rw [opT_put p1] at hi
      refine fin (q := (putT r oi.dst vi, S3)) (by simp only [stepT, wi, Option.bind_some, if_true, hi, Option.map_some]) ?_
      simp only [stepT, wantedT_put p3, wj, Option.bind_some, Bool.false_eq_true, if_false, comm]
  | true =>
    simp only [if_true, Option.map_eq_some_iff, Prod.mk.injEq] at hj
    obtain ⟨⟨vj, S4⟩, hj, rfl, rfl⟩ := hj
    rw [wantedT_put p1] at wi
    cases bi with
    | false =>
      simp only [Bool.false_eq_true, if_false, Option.some.injEq, Prod.mk.injEq] at hi
      obtain ⟨rfl, rfl⟩ := hi
      refine fin (q := (putT r oi.dst (.tup []), S)) (by simp only [stepT, wi, Option.bind_some, Bool.false_eq_true, if_false]) ?_
      simp only [stepT, wantedT_put p3, wj, Option.bind_some, if_true, opT_put p3, hj, Option.map_some, comm]
    | true =>
      simp only [if_true, Option.map_eq_some_iff, Prod.mk.injEq] at hi
      obtain ⟨⟨vi, S3⟩, hi, rfl, rfl⟩ := hi
      rw [opT_put p1] at hi
      obtain ⟨S1', g1, g2⟩ := swap_op hj hi (hk.imp id fun ⟨lk, dis, sj, si, oj1, oi1⟩ => by
        obtain ⟨Xr, XS⟩ := X
        simp only at dis
        have kj : ∀ t, t ∈ oj.looksAt ops → Xr.getD t (.tup []) = r.getD t (.tup []) := fun t ht => by
          rw [opsT_keeps rest hrest fun o ho e => (sj o ho t e).1 ht, putT_other fun e => p3 t e ht, putT_other fun e => oj1 t e ht]
        have ki : ∀ t, t ∈ oi.looksAt ops → Xr.getD t (.tup []) = r.getD t (.tup []) := fun t ht => by
          rw [opsT_keeps rest hrest fun o ho e => (si o ho t e).1 ht, putT_other fun e => oi1 t e ht, putT_other fun e => p1 t e ht]
        have iw : kd cx oi.op = .load ∨ kd cx oi.op = .write := by
          cases hkj : kd cx oj.op <;> cases hki : kd cx oi.op <;> rw [hkj, hki] at lk <;> simp_all [looseK]
        have fi : foot Xr oi = foot r oi := foot_congr' iw fun x hx => ev_keeps fun t ht => ki t (looks_mem (ht ▸ hx))
        refine ⟨lk, fun hna b hb => ?_, fun ha b hb => ?_⟩
        · have jw : kd cx oj.op = .load ∨ kd cx oj.op = .write := by
            cases hkj : kd cx oj.op <;> cases hki : kd cx oi.op <;> rw [hkj, hki] at lk <;> simp_all [looseK]
          have fj : foot Xr oj = foot r oj := foot_congr' jw fun x hx => ev_keeps fun t ht => kj t (looks_mem (ht ▸ hx))
          rw [← fi]
          exact dis.2 b (by rw [fj]; exact hb)
        · obtain ⟨f1, f2⟩ := alloc_foot ha
          have hne := dis.1
          rw [f2 Xr] at hne
          rw [← fi]
          refine dis.2 b ?_
          rw [f1 Xr] at hne ⊢
          cases hd : oj.dst with
          | none => rw [hd] at hne; simp at hne
          | some d =>
            rw [hd] at hne
            simp only [Option.map_some, Option.getD_some] at hne ⊢
            have e1 : Xr.getD d (.tup []) = (putT (putT r oj.dst vj) oi.dst vi).getD d (.tup []) := opsT_keeps rest hrest fun o ho e => (sj o ho d e).2 hd
            have e2 : (putT (putT r oj.dst vj) oi.dst vi).getD d (.tup []) = (putT r oj.dst vj).getD d (.tup []) := putT_other fun e => p2 d hd e
            rw [hd] at e1 e2
            rw [e1, e2] at hne ⊢
            simp only [putT, List.getD, List.getElem?_set_self'] at hne ⊢
            cases hr : r[d]? with
            | none => rw [hr] at hne; simp [AV.made] at hne
            | some y => simpa using hb)
      refine fin (q := (putT r oi.dst vi, S1')) (by simp only [stepT, wi, Option.bind_some, if_true, g1, Option.map_some]) ?_
      simp only [stepT, wantedT_put p3, wj, Option.bind_some, if_true, opT_put p3, g2, Option.map_some, comm]

/-- What may be said of a pair of which the second may come first. -/
def PairOk (cx : Cx) (ops : Array Oper) (r : Regs) (oj oi : Oper) (rest : List Oper) : Prop := oj.apart ops oi = true ∧
  (freeK (kd cx oj.op) (kd cx oi.op) = true ∨ (looseK (kd cx oj.op) (kd cx oi.op) = true ∧ Dis r oj oi ∧ Stays ops oj rest ∧ Stays ops oi rest ∧ Own1 ops oj ∧ Own1 ops oi))

theorem bubble {cx : Cx} {C : Oracle} {ops : Array Oper} {oi : Oper} {post : List Oper} {X : Regs × St} : ∀ (pre : List Oper) {r : Regs} {S : St}, opsT cx C ops (pre ++ oi :: post) r S = some X →
    (∀ (p : List Oper) (oj : Oper) (q : List Oper), pre = p ++ oj :: q → PairOk cx ops X.1 oj oi (q ++ post)) → opsT cx C ops (oi :: (pre ++ post)) r S = some X
  | [], r, S, h, _ => h
  | oj :: pre, r, S, h, hp => by
    simp only [List.cons_append, opsT, Option.bind_eq_some_iff] at h
    obtain ⟨⟨r1, S1⟩, hj, h⟩ := h
    have h1 := bubble pre h fun p o q e => hp (oj :: p) o q (by rw [e]; rfl)
    obtain ⟨ap, k⟩ := hp [] oj pre rfl
    refine swap_step ap ?_ k
    rw [opsT, hj, Option.bind_some]
    exact h1

end M
end Go.Proofs.YthclcchnodjjpaaGreatDoor
