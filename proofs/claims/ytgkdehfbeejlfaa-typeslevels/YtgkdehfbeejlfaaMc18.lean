/- WITHOUT FUEL: what T says in the end, of functions and of loops. -/
import Derived.Test.YtgkdehfbeejlfaaMc17
set_option linter.unusedVariables false
set_option linter.unusedSimpArgs false
namespace Go.Proofs.Ytgkdehfbeejlfaa
namespace M

def Le (C C' : Oracle) : Prop := ∀ f a σ x, C f a σ = some x → C' f a σ = some x
def LeL (L L' : Loops) : Prop := ∀ b r S o, L b r S = some o → L' b r S = some o

theorem callT_mono {cx : Cx} {C C' : Oracle} (h : Le C C') {S : St} {f : Nat} {args : List AV} {x : AV × St} (hx : callT cx C S f args = some x) : callT cx C' S f args = some x := by
  simp only [callT, Option.bind_eq_some_iff] at hx ⊢
  obtain ⟨fn, hf, o, ho, hx⟩ := hx
  refine ⟨fn, hf, o, ho, ?_⟩
  split at hx
  · cases hx
  · rename_i hn
    rw [if_neg hn]
    obtain ⟨y, hy, rfl⟩ := Option.map_eq_some_iff.1 hx
    exact Option.map_eq_some_iff.2 ⟨y, h _ _ _ _ hy, rfl⟩

theorem mkT_mono {cx : Cx} {C C' : Oracle} (h : Le C C') {S : St} {f : Nat} {args : List AV} {x : AV × St} (hx : mkT cx C S f args = some x) : mkT cx C' S f args = some x := by
  simp only [mkT, Option.bind_eq_some_iff] at hx ⊢
  obtain ⟨fn, hf, o, ho, hx⟩ := hx
  refine ⟨fn, hf, o, ho, ?_⟩
  split at hx
  · rename_i hn
    rw [if_pos hn]
    obtain ⟨y, hy, hx⟩ := Option.bind_eq_some_iff.1 hx
    exact Option.bind_eq_some_iff.2 ⟨y, h _ _ _ _ hy, hx⟩
  · cases hx

theorem opT_mono {cx : Cx} {C C' : Oracle} (h : Le C C') {r : Regs} {S : St} {op : Op} {x : AV × St} (hx : opT cx C r S op = some x) : opT cx C' r S op = some x := by
  cases op
  case call c =>
    simp only [opT, Option.bind_eq_some_iff] at hx ⊢
    obtain ⟨args, ha, hx⟩ := hx
    refine ⟨args, ha, ?_⟩
    cases hc : c.callee with
    | value y =>
      rw [hc] at hx
      simp only at hx ⊢
      cases hm : mkOp cx y with
      | some g => rw [hm] at hx; exact mkT_mono h hx
      | none =>
        rw [hm] at hx
        simp only [Option.bind_eq_some_iff] at hx ⊢
        obtain ⟨f, hf, hx⟩ := hx
        refine ⟨f, hf, ?_⟩
        unfold applyT at hx ⊢
        split at hx
        · split at hx
          · cases hx
          · rename_i hmk
            rw [if_neg hmk]
            exact callT_mono h hx
        · cases hx
    | builtin b => rw [hc] at hx; exact hx
    | invoke a b => rw [hc] at hx; cases hx
  case unOp o t y => cases o <;> exact hx
  case makeFunc fn fs cs => cases fn <;> exact hx
  all_goals exact hx

theorem stepT_mono {cx : Cx} {C C' : Oracle} (h : Le C C') {ops : Array Oper} {o : Oper} {r : Regs} {S : St} {x : Regs × St} (hx : stepT cx C ops o r S = some x) : stepT cx C' ops o r S = some x := by
  simp only [stepT, Option.bind_eq_some_iff] at hx ⊢
  obtain ⟨b, hb, hx⟩ := hx
  refine ⟨b, hb, ?_⟩
  cases b with
  | false => exact hx
  | true =>
    obtain ⟨y, hy, rfl⟩ := Option.map_eq_some_iff.1 hx
    exact Option.map_eq_some_iff.2 ⟨y, opT_mono h hy, rfl⟩

theorem opsT_mono {cx : Cx} {C C' : Oracle} (h : Le C C') {ops : Array Oper} : ∀ (l : List Oper) {r : Regs} {S : St} {x : Regs × St}, opsT cx C ops l r S = some x → opsT cx C' ops l r S = some x
  | [], r, S, x, hx => hx
  | o :: l, r, S, x, hx => by
    simp only [opsT, Option.bind_eq_some_iff] at hx ⊢
    obtain ⟨y, hy, hx⟩ := hx
    exact ⟨y, stepT_mono h hy, opsT_mono h l hx⟩

theorem codeT_mono {cx : Cx} {C C' : Oracle} (h : Le C C') {L L' : Loops} (hL : LeL L L') : ∀ (c : Code) {r : Regs} {S : St} {o : Out}, codeT cx C L c r S = some o → codeT cx C' L' c r S = some o
  | .skip, r, S, o, hx => hx
  | .region id ops false, r, S, o, hx => by
    simp only [codeT, Option.map_eq_some_iff] at hx ⊢
    obtain ⟨y, hy, rfl⟩ := hx
    exact ⟨y, opsT_mono h _ hy, rfl⟩
  | .region id ops true, r, S, o, hx => by
    simp only [codeT, Option.bind_eq_some_iff] at hx ⊢
    obtain ⟨y, hy, hx⟩ := hx
    exact ⟨y, opsT_mono h _ hy, hx⟩
  | .seq a b, r, S, o, hx => by
    simp only [codeT, Option.bind_eq_some_iff] at hx ⊢
    obtain ⟨y, hy, hx⟩ := hx
    refine ⟨y, codeT_mono h hL a hy, ?_⟩
    cases he : y.ex <;> rw [he] at hx <;> simp only at hx ⊢
    · exact codeT_mono h hL b hx
    · exact hx
    · exact hx
  | .cond c a b, r, S, o, hx => by
    simp only [codeT, Option.bind_eq_some_iff] at hx ⊢
    obtain ⟨v, hv, t, ht, hx⟩ := hx
    refine ⟨v, hv, t, ht, ?_⟩
    cases t
    · exact codeT_mono h hL b hx
    · exact codeT_mono h hL a hx
  | .block id b, r, S, o, hx => by
    simp only [codeT, Option.map_eq_some_iff] at hx ⊢
    obtain ⟨y, hy, rfl⟩ := hx
    exact ⟨y, codeT_mono h hL b hy, rfl⟩
  | .exit id, r, S, o, hx => hx
  | .ret, r, S, o, hx => hx
  | .loop b, r, S, o, hx => hL b r S o hx
  | .rangeFunc _ _ _ _, r, S, o, hx => hx
  | .scope _, r, S, o, hx => hx
  | .label _, r, S, o, hx => hx
  | .goto _, r, S, o, hx => hx
  | .refuse _, r, S, o, hx => hx

theorem loopN_mono {cx : Cx} {C C' : Oracle} (h : Le C C') : ∀ (n m : Nat), n ≤ m → LeL (loopN cx C n) (loopN cx C' m)
  | 0, m, _ => fun b r S o hx => by simp only [loopN] at hx; cases hx
  | n + 1, m, hm => fun b r S o hx => by
    obtain ⟨m, rfl⟩ : ∃ k, m = k + 1 := ⟨m - 1, by omega⟩
    have ih := loopN_mono (cx := cx) h n m (by omega)
    simp only [loopN, Option.bind_eq_some_iff] at hx ⊢
    obtain ⟨y, hy, hx⟩ := hx
    refine ⟨y, codeT_mono h ih b hy, ?_⟩
    cases he : y.ex <;> rw [he] at hx <;> simp only at hx ⊢
    · exact ih _ _ _ _ hx
    · exact hx
    · exact hx

theorem bodyT_mono {cx : Cx} {run run' : Code → Regs → St → Option Out} (h : ∀ c r S o, run c r S = some o → run' c r S = some o) {f : Nat} {args : List AV} {σ : List (List AV)} {x : AV × List (List AV)} (hx : bodyT cx run f args σ = some x) : bodyT cx run' f args σ = some x := by
  simp only [bodyT, Option.bind_eq_some_iff] at hx ⊢
  obtain ⟨fn, hf, c, hc, hx⟩ := hx
  refine ⟨fn, hf, c, hc, ?_⟩
  split at hx
  · cases hx
  · rename_i hn
    rw [if_neg hn]
    obtain ⟨o, ho, hx⟩ := Option.bind_eq_some_iff.1 hx
    exact Option.bind_eq_some_iff.2 ⟨o, h _ _ _ _ ho, hx⟩

theorem callN_mono {cx : Cx} {E : Oracle} : ∀ (n m : Nat), n ≤ m → Le (callN cx E n) (callN cx E m)
  | 0, m, _ => fun f a σ x hx => by simp only [callN] at hx; cases hx
  | n + 1, m, hm => fun f a σ x hx => by
    obtain ⟨m, rfl⟩ : ∃ k, m = k + 1 := ⟨m - 1, by omega⟩
    have ih := callN_mono (cx := cx) (E := E) n m (by omega)
    simp only [callN] at hx ⊢
    split at hx
    · rename_i he; rw [if_pos he]; exact hx
    · rename_i he
      rw [if_neg he]
      exact bodyT_mono (fun c r S o ho => codeT_mono ih (loopN_mono ih n m (by omega)) c ho) hx

/-! ### Limits -/
open Classical in
noncomputable def lim {α : Type} (F : Nat → Option α) : Option α := if h : ∃ n x, F n = some x then F h.choose else none

theorem lim_of {α : Type} {F : Nat → Option α} (hm : ∀ n m x, n ≤ m → F n = some x → F m = some x) {n : Nat} {x : α} (h : F n = some x) : lim F = some x := by
  have he : ∃ n x, F n = some x := ⟨n, x, h⟩
  unfold lim
  rw [dif_pos he]
  obtain ⟨y, hy⟩ := he.choose_spec
  rw [hy]
  have h1 := hm _ (max n he.choose) _ (Nat.le_max_left _ _) h
  have h2 := hm _ (max n he.choose) _ (Nat.le_max_right _ _) hy
  rw [h1] at h2
  exact h2.symm ▸ rfl

theorem of_lim {α : Type} {F : Nat → Option α} {x : α} (h : lim F = some x) : ∃ n, F n = some x := by
  unfold lim at h
  split at h
  · exact ⟨_, h⟩
  · cases h

/-- What a function returns, in the end. -/
noncomputable def den (cx : Cx) (E : Oracle) : Oracle := fun f a σ => lim fun n => callN cx E n f a σ
/-- What a loop in function f does, in the end. -/
noncomputable def lup (cx : Cx) (E : Oracle) (f : Nat) : Loops := fun b r S => lim fun n => loopN (cx.at f) (callN cx E n) n b r S

theorem den_of {cx : Cx} {E : Oracle} {n f : Nat} {a : List AV} {σ : List (List AV)} {x : AV × List (List AV)} (h : callN cx E n f a σ = some x) : den cx E f a σ = some x :=
  lim_of (fun n m x hle h => callN_mono n m hle _ _ _ _ h) h
theorem of_den {cx : Cx} {E : Oracle} {f : Nat} {a : List AV} {σ : List (List AV)} {x : AV × List (List AV)} (h : den cx E f a σ = some x) : ∃ n, callN cx E n f a σ = some x := of_lim h
theorem lup_of {cx : Cx} {E : Oracle} {n f : Nat} {b : Code} {r : Regs} {S : St} {o : Out} (h : loopN (cx.at f) (callN cx E n) n b r S = some o) : lup cx E f b r S = some o :=
  lim_of (fun n m x hle h => loopN_mono (callN_mono n m hle) n m hle _ _ _ _ h) h

theorem den_sound {cx : Cx} (ok : CxOk cx) (hb : BodiesOk cx) {E : Oracle} (he : CSound cx E) : CSound cx (den cx E) := fun f a σ r σ1 h h0 => by
  obtain ⟨n, hn⟩ := of_den h
  exact call_sound ok hb he n f a σ r σ1 hn h0

section
variable {cx : Cx} {E : Oracle}

theorem opT_cont {r : Regs} {S : St} {op : Op} {cf : Cx} {x : AV × St} (hx : opT cf (den cx E) r S op = some x) : ∃ n, opT cf (callN cx E n) r S op = some x := by
  cases op
  case call c =>
    simp only [opT, Option.bind_eq_some_iff] at hx ⊢
    obtain ⟨args, ha, hx⟩ := hx
    cases hc : c.callee with
    | value y =>
      rw [hc] at hx
      simp only at hx ⊢
      cases hm : mkOp cf y with
      | some g =>
        rw [hm] at hx
        simp only [mkT, Option.bind_eq_some_iff] at hx
        obtain ⟨fn, hfn, o, ho, hx⟩ := hx
        split at hx
        · rename_i hn
          obtain ⟨z, hz, hx⟩ := Option.bind_eq_some_iff.1 hx
          obtain ⟨n, hn'⟩ := of_den hz
          refine ⟨n, args, ha, ?_⟩
          simp only [mkT, hfn, ho, Option.bind_some, if_pos hn, hn']
          exact hx
        · cases hx
      | none =>
        rw [hm] at hx
        simp only [Option.bind_eq_some_iff] at hx
        obtain ⟨f, hf, hx⟩ := hx
        unfold applyT at hx
        split at hx
        · split at hx
          · cases hx
          · rename_i hmk
            simp only [callT, Option.bind_eq_some_iff] at hx
            obtain ⟨fn, hfn, o, ho, hx⟩ := hx
            split at hx
            · cases hx
            · rename_i hn
              obtain ⟨z, hz, rfl⟩ := Option.map_eq_some_iff.1 hx
              obtain ⟨n, hn'⟩ := of_den hz
              refine ⟨n, args, ha, ?_⟩
              simp only [hf, Option.bind_some, applyT, if_neg hmk, callT, hfn, ho, if_neg hn, hn', Option.map_some]
        · cases hx
    | builtin b => rw [hc] at hx; exact ⟨0, args, ha, hx⟩
    | invoke a b => rw [hc] at hx; cases hx
  case unOp o t y => cases o <;> exact ⟨0, hx⟩
  case makeFunc fn fs cs => cases fn <;> exact ⟨0, hx⟩
  all_goals exact ⟨0, hx⟩

theorem opsT_cont {ops : Array Oper} {cf : Cx} : ∀ (l : List Oper) {r : Regs} {S : St} {x : Regs × St}, opsT cf (den cx E) ops l r S = some x → ∃ n, opsT cf (callN cx E n) ops l r S = some x
  | [], r, S, x, hx => ⟨0, hx⟩
  | o :: l, r, S, x, hx => by
    simp only [opsT, Option.bind_eq_some_iff] at hx
    obtain ⟨y, hy, hx⟩ := hx
    obtain ⟨m, hm⟩ := opsT_cont l hx
    have : ∃ n, stepT cf (callN cx E n) ops o r S = some y := by
      simp only [stepT, Option.bind_eq_some_iff] at hy ⊢
      obtain ⟨b, hb, hy⟩ := hy
      cases b with
      | false => exact ⟨0, false, hb, hy⟩
      | true =>
        obtain ⟨z, hz, rfl⟩ := Option.map_eq_some_iff.1 hy
        obtain ⟨n, hn⟩ := opT_cont hz
        exact ⟨n, true, hb, Option.map_eq_some_iff.2 ⟨z, hn, rfl⟩⟩
    obtain ⟨n, hn⟩ := this
    refine ⟨max n m, ?_⟩
    simp only [opsT, Option.bind_eq_some_iff]
    exact ⟨y, stepT_mono (callN_mono _ _ (Nat.le_max_left _ _)) hn, opsT_mono (callN_mono _ _ (Nat.le_max_right _ _)) l hm⟩

theorem codeT_cont {f : Nat} : ∀ (c : Code) {r : Regs} {S : St} {o : Out}, codeT (cx.at f) (den cx E) (lup cx E f) c r S = some o → ∃ n, codeT (cx.at f) (callN cx E n) (loopN (cx.at f) (callN cx E n) n) c r S = some o
  | .skip, r, S, o, hx => ⟨0, hx⟩
  | .region id ops false, r, S, o, hx => by
    simp only [codeT, Option.map_eq_some_iff] at hx
    obtain ⟨y, hy, rfl⟩ := hx
    obtain ⟨n, hn⟩ := opsT_cont _ hy
    exact ⟨n, by simp only [codeT, hn, Option.map_some]⟩
  | .region id ops true, r, S, o, hx => by
    simp only [codeT, Option.bind_eq_some_iff] at hx
    obtain ⟨y, hy, hx⟩ := hx
    obtain ⟨n, hn⟩ := opsT_cont _ hy
    exact ⟨n, by simp only [codeT, hn, Option.bind_some]; exact hx⟩
  | .seq a b, r, S, o, hx => by
    simp only [codeT, Option.bind_eq_some_iff] at hx
    obtain ⟨y, hy, hx⟩ := hx
    obtain ⟨n, hn⟩ := codeT_cont a hy
    cases he : y.ex with
    | normal =>
      rw [he] at hx
      obtain ⟨m, hm⟩ := codeT_cont b hx
      refine ⟨max n m, ?_⟩
      have l1 := callN_mono (cx := cx) (E := E) _ _ (Nat.le_max_left n m)
      have l2 := callN_mono (cx := cx) (E := E) _ _ (Nat.le_max_right n m)
      simp only [codeT, codeT_mono l1 (loopN_mono l1 _ _ (Nat.le_max_left n m)) a hn, Option.bind_some, he]
      exact codeT_mono l2 (loopN_mono l2 _ _ (Nat.le_max_right n m)) b hm
    | exit i => rw [he] at hx; exact ⟨n, by simp only [codeT, hn, Option.bind_some, he]; exact hx⟩
    | ret => rw [he] at hx; exact ⟨n, by simp only [codeT, hn, Option.bind_some, he]; exact hx⟩
  | .cond c a b, r, S, o, hx => by
    simp only [codeT, Option.bind_eq_some_iff] at hx
    obtain ⟨v, hv, t, ht, hx⟩ := hx
    cases t with
    | false =>
      obtain ⟨n, hn⟩ := codeT_cont b hx
      exact ⟨n, by simp only [codeT, hv, ht, Option.bind_some]; exact hn⟩
    | true =>
      obtain ⟨n, hn⟩ := codeT_cont a hx
      exact ⟨n, by simp only [codeT, hv, ht, Option.bind_some]; exact hn⟩
  | .block id b, r, S, o, hx => by
    simp only [codeT, Option.map_eq_some_iff] at hx
    obtain ⟨y, hy, rfl⟩ := hx
    obtain ⟨n, hn⟩ := codeT_cont b hy
    exact ⟨n, by simp only [codeT, hn, Option.map_some]⟩
  | .exit id, r, S, o, hx => ⟨0, hx⟩
  | .ret, r, S, o, hx => ⟨0, hx⟩
  | .loop b, r, S, o, hx => of_lim hx
  | .rangeFunc _ _ _ _, r, S, o, hx => ⟨0, hx⟩
  | .scope _, r, S, o, hx => ⟨0, hx⟩
  | .label _, r, S, o, hx => ⟨0, hx⟩
  | .goto _, r, S, o, hx => ⟨0, hx⟩
  | .refuse _, r, S, o, hx => ⟨0, hx⟩

/-- One round of a loop. -/
theorem lup_step {f : Nat} {b : Code} {r : Regs} {S : St} {o x : Out} (h : codeT (cx.at f) (den cx E) (lup cx E f) b r S = some o) (hn : o.ex = .normal → lup cx E f b o.r o.S = some x) (hx : o.ex ≠ .normal → o = x) : lup cx E f b r S = some x := by
  obtain ⟨n, h1⟩ := codeT_cont b h
  by_cases he : o.ex = .normal
  · obtain ⟨m, h2⟩ := of_lim (hn he)
    have l1 := callN_mono (cx := cx) (E := E) n (max n m + 1) (by omega)
    have l2 := callN_mono (cx := cx) (E := E) m (max n m + 1) (by omega)
    refine lup_of (n := max n m + 1) ?_
    simp only [loopN, codeT_mono l1 (loopN_mono l1 _ _ (Nat.le_max_left n m)) b h1, Option.bind_some, he]
    exact loopN_mono l2 _ _ (Nat.le_max_right n m) _ _ _ _ h2
  · have l1 := callN_mono (cx := cx) (E := E) n (n + 1) (by omega)
    refine lup_of (n := n + 1) ?_
    simp only [loopN, codeT_mono l1 (loopN_mono l1 _ _ (Nat.le_refl n)) b h1, Option.bind_some]
    have := hx he
    subst this
    cases h3 : o.ex with
    | normal => exact absurd h3 he
    | _ => rfl

/-- A function, by its body. -/
theorem den_body {f : Nat} {args : List AV} {σ : List (List AV)} {x : AV × List (List AV)} (h : bodyT cx (codeT (cx.at f) (den cx E) (lup cx E f)) f args σ = some x) (hx : cx.ext f = false) : den cx E f args σ = some x := by
  simp only [bodyT, Option.bind_eq_some_iff] at h
  obtain ⟨fn, hf, c, hc, h⟩ := h
  split at h
  · cases h
  · rename_i hn
    obtain ⟨o, ho, h⟩ := Option.bind_eq_some_iff.1 h
    obtain ⟨n, h1⟩ := codeT_cont c ho
    refine den_of (n := n + 1) ?_
    simp only [callN, hx, Bool.false_eq_true, if_false, bodyT, hf, hc, Option.bind_some, if_neg hn, h1]
    exact h

theorem den_ext {f : Nat} {args : List AV} {σ : List (List AV)} {x : AV × List (List AV)} (h : E f args σ = some x) (hx : cx.ext f = true) : den cx E f args σ = some x :=
  den_of (n := 1) (by simp only [callN, hx, if_true]; exact h)
end

end M
end Go.Proofs.Ytgkdehfbeejlfaa
