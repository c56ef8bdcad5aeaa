/- SOUNDNESS 11: kinds of operations, and which of them may change places. -/
import Derived.Test.YtgkdehfbeejlfaaMc11
set_option linter.unusedVariables false
set_option linter.unusedSimpArgs false
namespace Go.Proofs.Ytgkdehfbeejlfaa
namespace M

/-- Looks at nothing but its operands; looks at the store; makes a block; changes blocks; appends. -/
inductive Kd where
  | pure | load | alloc | write | append | other
  deriving DecidableEq

def isClosed (cx : Cx) (f : Nat) (n : Nat) : Bool := match cx.P.funcs[f]? with
  | some fn => decide (n ≤ fn.params.size) && fn.params.toList.all fun t => !cx.tt t
  | none => false

def kd (cx : Cx) : Op → Kd
  | .load _ _ => .load
  | .store _ _ _ => .write
  | .alloc _ | .makeSlice _ _ _ => .alloc
  | .box t _ => if cx.im t = true then .pure else .alloc
  | .call c => match c.callee with
    | .builtin .append => .append
    | .builtin _ => .pure
    | .value (.func f) => if cx.mkf f = true then .other else if isClosed cx f c.args.size = true then .pure else .write
    | _ => .write
  | _ => .pure

/-! ### Closed calls -/
theorem hand_closed {cx : Cx} : ∀ (args : List AV) (ts : List Nat) (σ : List (List AV)) (o : Over), args.length ≤ ts.length → (∀ t ∈ ts, cx.tt t = false) → hand cx ts [] σ args = some o → o.refs = [] ∧ o.σ = σ ∧ ∀ σ2, hand cx ts [] σ2 args = some ⟨o.args, [], σ2⟩
  | [], ts, σ, o, hl, ht, h => by
    simp only [hand] at h ⊢
    cases h
    exact ⟨rfl, rfl, fun _ => rfl⟩
  | v :: args, [], σ, o, hl, ht, h => by simp at hl
  | v :: args, t :: ts, σ, o, hl, ht, h => by
    have htt := ht t (by simp)
    simp only [hand, Option.bind_eq_some_iff, Option.map_eq_some_iff, List.headD_cons, List.tail_cons] at h
    obtain ⟨⟨v1, r1, σ1⟩, h1, o1, h2, rfl⟩ := h
    have key : r1 = [] ∧ σ1 = σ ∧ ∀ σ2, handOne cx t [] σ2 v = some (v1, [], σ2) := by
      unfold handOne at h1 ⊢
      split at h1
      · rw [if_pos htt] at h1; cases h1
      · rw [if_pos htt] at h1; cases h1
      · rename_i hn1 hn2
        cases h1
        exact ⟨rfl, rfl, fun σ2 => rfl⟩
    obtain ⟨rfl, rfl, k3⟩ := key
    obtain ⟨q1, q2, q3⟩ := hand_closed args ts σ1 o1 (by simpa using hl) (fun t ht' => ht t (by simp [ht'])) h2
    refine ⟨q1, q2, fun σ2 => ?_⟩
    simp only [hand, List.headD_cons, List.tail_cons, k3 σ2, Option.bind_some, q3 σ2, Option.map_some]

theorem call_closed {cx : Cx} {C : Oracle} {S S' : St} {f : Nat} {args : List AV} {v : AV} (hc : isClosed cx f args.length = true) (h : callT cx C S f args = some (v, S')) : S' = S ∧ ∀ S2, callT cx C S2 f args = some (v, S2) := by
  unfold isClosed at hc
  simp only [callT, Option.bind_eq_some_iff] at h
  obtain ⟨fn, hf, o, ho, h⟩ := h
  rw [hf] at hc
  simp only [Bool.and_eq_true, decide_eq_true_eq, List.all_eq_true, Bool.not_eq_true'] at hc
  obtain ⟨q1, q2, q3⟩ := hand_closed args fn.params.toList S.σ o (by simpa using hc.1) hc.2 ho
  simp only [q1, q2, List.any_nil, Bool.false_eq_true, if_false, List.map_nil, Option.map_eq_some_iff] at h
  obtain ⟨⟨r, σ1⟩, h1, h2⟩ := h
  have pb : ∀ σ css, putBack σ [] css = σ := fun σ css => by cases css <;> rfl
  simp only [pb] at h2
  cases h2
  refine ⟨rfl, fun S2 => ?_⟩
  simp only [callT, hf, Option.bind_some, q3, List.any_nil, Bool.false_eq_true, if_false, List.map_nil, h1, Option.map_some, pb]

theorem pure_spec {cx : Cx} {C : Oracle} {r : Regs} {S S' : St} {op : Op} {v : AV} (hk : kd cx op = .pure) (h : opT cx C r S op = some (v, S')) : S' = S ∧ ∀ S2, opT cx C r S2 op = some (v, S2) := by
  have fin : ∀ {x : Option AV}, x.map (fun v => (v, S)) = some (v, S') → S' = S ∧ ∀ S2 : St, x.map (fun v => (v, S2)) = some (v, S2) := by
    intro x hx
    obtain ⟨v', rfl, h2⟩ := Option.map_eq_some_iff.1 hx
    cases h2
    exact ⟨rfl, fun _ => rfl⟩
  cases op
  case load => simp only [kd] at hk; cases hk
  case store => simp only [kd] at hk; cases hk
  case alloc => simp only [kd] at hk; cases hk
  case makeSlice => simp only [kd] at hk; cases hk
  case move x => exact fin h
  case assign x => exact fin h
  case pick c x y =>
    simp only [opT, Option.bind_eq_some_iff, Option.map_eq_some_iff] at h ⊢
    obtain ⟨c', h1, b, h2, x', h3, y', h4, h5⟩ := h
    cases h5
    exact ⟨rfl, fun S2 => ⟨c', h1, b, h2, x', h3, y', h4, rfl⟩⟩
  case box t x =>
    simp only [kd] at hk
    split at hk
    · rename_i hi
      simp only [opT, Option.bind_eq_some_iff] at h ⊢
      obtain ⟨x', hx, h⟩ := h
      split at h
      · rename_i hc
        cases h
        exact ⟨rfl, fun S2 => ⟨x', hx, by rw [if_pos hc, if_pos hi]⟩⟩
      · cases h
    · cases hk
  case build t ps =>
    simp only [opT, Option.bind_eq_some_iff] at h ⊢
    obtain ⟨x', hx, h⟩ := h
    exact ⟨(fin h).1, fun S2 => ⟨x', hx, (fin h).2 S2⟩⟩
  case buildSlice t n ps =>
    simp only [opT, Option.bind_eq_some_iff] at h ⊢
    obtain ⟨x', hx, h⟩ := h
    exact ⟨(fin h).1, fun S2 => ⟨x', hx, (fin h).2 S2⟩⟩
  case nilCheck x =>
    simp only [opT, Option.bind_eq_some_iff] at h ⊢
    obtain ⟨x', hx, h⟩ := h
    split at h
    all_goals first
      | (cases h; exact ⟨rfl, fun S2 => ⟨_, hx, rfl⟩⟩)
      | cases h
  case binOp op t x y yt =>
    simp only [opT, Option.bind_eq_some_iff] at h ⊢
    obtain ⟨x', hx, y', hy, h⟩ := h
    exact ⟨(fin h).1, fun S2 => ⟨x', hx, y', hy, (fin h).2 S2⟩⟩
  case unOp op t x =>
    cases op with
    | not =>
      simp only [opT, Option.bind_eq_some_iff, Option.map_eq_some_iff] at h ⊢
      obtain ⟨x', hx, b, h1, h2⟩ := h
      cases h2
      exact ⟨rfl, fun S2 => ⟨x', hx, b, h1, rfl⟩⟩
    | _ => simp only [opT] at h; cases h
  case makeInterface t x =>
    simp only [opT, Option.bind_eq_some_iff] at h ⊢
    obtain ⟨x', hx, h⟩ := h
    split at h
    · rename_i hi
      cases h
      exact ⟨rfl, fun S2 => ⟨x', hx, rfl⟩⟩
    · cases h
  case makeFunc fn fs cs =>
    cases fn with
    | func f =>
      simp only [opT] at h ⊢
      split at h
      · rename_i hz
        obtain ⟨vs, h1, h2⟩ := Option.map_eq_some_iff.1 h
        cases h2
        exact ⟨rfl, fun S2 => by rw [if_pos hz, h1]; rfl⟩
      · cases h
    | _ => simp only [opT] at h; cases h
  case slice t x lo hi mx =>
    simp only [opT] at h ⊢
    split at h
    · cases h
    · rename_i hm
      obtain ⟨x', hx, h⟩ := Option.bind_eq_some_iff.1 h
      exact ⟨(fin h).1, fun S2 => by rw [if_neg hm]; exact Option.bind_eq_some_iff.2 ⟨x', hx, (fin h).2 S2⟩⟩
  case fieldAddr t x f =>
    simp only [opT, Option.bind_eq_some_iff] at h ⊢
    obtain ⟨x', hx, h⟩ := h
    exact ⟨(fin h).1, fun S2 => ⟨x', hx, (fin h).2 S2⟩⟩
  case field t x f =>
    simp only [opT, Option.bind_eq_some_iff] at h ⊢
    obtain ⟨x', hx, h⟩ := h
    exact ⟨(fin h).1, fun S2 => ⟨x', hx, (fin h).2 S2⟩⟩
  case indexAddr t x i =>
    simp only [opT, Option.bind_eq_some_iff] at h ⊢
    obtain ⟨x', hx, y', hy, h⟩ := h
    exact ⟨(fin h).1, fun S2 => ⟨x', hx, y', hy, (fin h).2 S2⟩⟩
  case typeAssert x xt t b =>
    simp only [opT, Option.bind_eq_some_iff] at h ⊢
    obtain ⟨x', hx, h⟩ := h
    exact ⟨(fin h).1, fun S2 => ⟨x', hx, (fin h).2 S2⟩⟩
  case extract x i =>
    simp only [opT, Option.bind_eq_some_iff] at h ⊢
    obtain ⟨x', hx, h⟩ := h
    split at h
    · exact ⟨(fin h).1, fun S2 => ⟨_, hx, (fin h).2 S2⟩⟩
    · cases h
  case call c =>
    simp only [opT, Option.bind_eq_some_iff] at h ⊢
    obtain ⟨args, ha, h⟩ := h
    simp only [kd] at hk
    split at h
    · rename_i b hb
      rw [hb] at hk
      have : S' = S ∧ ∀ S2, builtinT cx S2 b c.argTypes.toList args = some (v, S2) := by
        unfold builtinT at h ⊢
        split at h
        · obtain ⟨ti, ht, h⟩ := Option.bind_eq_some_iff.1 h
          simp only [ht, Option.bind_some]
          split at h
          · cases h; exact ⟨rfl, fun _ => rfl⟩
          · cases h; exact ⟨rfl, fun _ => rfl⟩
          · cases h
        · simp only at hk; cases hk
        · split at h
          · rename_i hkk; cases h; exact ⟨rfl, fun _ => if_pos hkk⟩
          · cases h
        · split at h
          · rename_i hkk; cases h; exact ⟨rfl, fun _ => if_pos hkk⟩
          · cases h
        · cases h
      exact ⟨this.1, fun S2 => ⟨args, ha, this.2 S2⟩⟩
    · rename_i x hb
      rw [hb] at hk
      cases x with
      | func g =>
        simp only at hk
        split at hk
        · cases hk
        · rename_i hm
          split at hk
          · rename_i hc
            have hmo : mkOp cx (.func g) = none := by simp only [mkOp, if_neg hm]
            have hlen : ∀ {xs : List Operand} {vs : List AV}, evs r xs = some vs → vs.length = xs.length := by
              intro xs
              induction xs with
              | nil => intro vs h; cases h; rfl
              | cons x xs ih =>
                intro vs h
                simp only [evs, Option.bind_eq_some_iff, Option.map_eq_some_iff] at h
                obtain ⟨_, _, _, h2, rfl⟩ := h
                simp [ih h2]
            simp only [hmo, ev, Option.bind_some, applyT, if_neg hm, List.append_nil] at h ⊢
            have hl : args.length = c.args.size := by simpa using hlen ha
            obtain ⟨e1, e2⟩ := call_closed (by rw [hl]; exact hc) h
            exact ⟨e1, fun S2 => ⟨args, ha, e2 S2⟩⟩
          · cases hk
      | _ => simp only at hk; cases hk
    · cases h
  all_goals (simp only [opT] at h; cases h)

end M
end Go.Proofs.Ytgkdehfbeejlfaa
