/- CALLS AS SIMP FACTS: a call of a function whose answer is known. -/
import Derived.Test.YtgkdehfbeejlfaaMc19
set_option linter.unusedVariables false
namespace Go.Proofs.Ytgkdehfbeejlfaa
namespace M

/-- A value without places that a function may be handed as it is. -/
def Plain (v : AV) : Prop := dd v = v ∧ (∀ b o, v ≠ .loc b o) ∧ ∀ f cs, v ≠ .fn f cs

theorem handOne_plain {cx : Cx} {t : Nat} {refs : List Nat} {σ : List (List AV)} {v : AV} (h : Plain v) : handOne cx t refs σ v = some (v, refs, σ) := by
  obtain ⟨h1, h2, h3⟩ := h
  unfold handOne
  split
  · exact absurd rfl (h2 _ _)
  · exact absurd rfl (h3 _ _)
  · rw [h1]

theorem hand_plain {cx : Cx} : ∀ (args : List AV) (ts refs : List Nat) (σ : List (List AV)), (∀ a ∈ args, Plain a) → hand cx ts refs σ args = some ⟨args, refs, σ⟩
  | [], ts, refs, σ, _ => rfl
  | v :: args, ts, refs, σ, h => by
    simp only [hand, handOne_plain (h v (by simp)), Option.bind_some, hand_plain args ts.tail refs σ (fun a ha => h a (by simp [ha])), Option.map_some]

theorem call_of {cx cf : Cx} {E : Oracle} {f : Nat} {fn : Func} {args : List AV} {v : AV} (hP : cf.P.funcs[f]? = some fn) (ha : ∀ a ∈ args, Plain a) (h : den cx E f args [] = some (v, [])) (S : St) : callT cf (den cx E) S f args = some (v, S) := by
  simp [callT, hP, hand_plain args _ [] S.σ ha, h, putBack]

/-- The first argument by reference. -/
theorem call_ref {cx cf : Cx} {E : Oracle} {f : Nat} {fn : Func} {b : Nat} {args : List AV} {cs cs' : List AV} {v : AV} {t : Nat} {ts : List Nat} (hP : cf.P.funcs[f]? = some fn) (ht : fn.params.toList = t :: ts) (h1 : cf.tt t = true) (h2 : cf.rf t = true)
    (ha : ∀ a ∈ args, Plain a) (hcs : cs.map dd = cs) (hne : cs ≠ []) (h : den cx E f (.loc 0 0 :: args) [cs] = some (v, [cs'])) (S : St) (hS : sd S.σ b = some cs) :
    callT cf (den cx E) S f (.loc b 0 :: args) = some (v, { S with σ := S.σ.set b cs' }) := by
  have hS' : S.σ[b]? = some cs := hS
  have hne' : cs.isEmpty = false := by simpa using hne
  have ho : hand cf fn.params.toList [] S.σ (.loc b 0 :: args) = some ⟨.loc 0 0 :: args, [b], S.σ⟩ := by
    simp only [hand, ht, List.headD_cons, List.tail_cons, handOne, h1, h2, Bool.true_eq_false, if_false, if_true]
    simp [hand_plain args ts [b] S.σ ha]
  simp only [callT, hP, Option.bind_some, ho, List.any_cons, List.any_nil, hS', Option.getD_some, hne', Bool.or_false, Bool.false_eq_true, if_false, List.map_cons, List.map_nil, hcs, h, Option.map_some, putBack]
/-- No place, and no function. -/
def AV.noPl : AV → Bool
  | .loc _ _ | .fn _ _ => false
  | _ => true
theorem handOne_noPl {cx : Cx} {t : Nat} {refs : List Nat} {σ : List (List AV)} {v : AV} (h : v.noPl = true) : handOne cx t refs σ v = some (dd v, refs, σ) := by
  cases v <;> first | rfl | (simp [AV.noPl] at h)
theorem hand_noPl {cx : Cx} : ∀ (args : List AV) (ts refs : List Nat) (σ : List (List AV)), (args.all AV.noPl) = true → hand cx ts refs σ args = some ⟨args.map dd, refs, σ⟩
  | [], ts, refs, σ, _ => rfl
  | v :: args, ts, refs, σ, h => by
    simp only [List.all_cons, Bool.and_eq_true] at h
    simp only [hand, handOne_noPl h.1, Option.bind_some, hand_noPl args ts.tail refs σ h.2, Option.map_some, List.map_cons]

/-- A call whose arguments are the ones that are known, but for the room behind slices. -/
theorem call_up {cx cf : Cx} {E : Oracle} {f : Nat} {fn : Func} {args args' : List AV} {v : AV} (hP : cf.P.funcs[f]? = some fn) (hn : (args'.all AV.noPl) = true) (hd : args'.map dd = args) (h : den cx E f args [] = some (v, [])) (S : St) : callT cf (den cx E) S f args' = some (v, S) := by
  subst hd
  simp [callT, hP, hand_noPl args' _ [] S.σ hn, h, putBack]

/-- The first argument by reference. -/
theorem call_upD {cx cf : Cx} {E : Oracle} {f : Nat} {fn : Func} {b : Nat} {args args' : List AV} {cs cs' : List AV} {v : AV} {t : Nat} {ts : List Nat} (hP : cf.P.funcs[f]? = some fn) (ht : fn.params.toList = t :: ts) (h1 : cf.tt t = true) (h2 : cf.rf t = true)
    (hn : (args'.all AV.noPl) = true) (hd : args'.map dd = args) (hcs : cs.map dd = cs) (hne : cs ≠ []) (h : den cx E f (.loc 0 0 :: args) [cs] = some (v, [cs'])) (S : St) (hS : sd S.σ b = some cs) :
    callT cf (den cx E) S f (.loc b 0 :: args') = some (v, { S with σ := S.σ.set b cs' }) := by
  subst hd
  have hS' : S.σ[b]? = some cs := hS
  have hne' : cs.isEmpty = false := by simpa using hne
  have ho : hand cf fn.params.toList [] S.σ (.loc b 0 :: args') = some ⟨.loc 0 0 :: args'.map dd, [b], S.σ⟩ := by
    simp only [hand, ht, List.headD_cons, List.tail_cons, handOne, h1, h2, Bool.true_eq_false, if_false, if_true]
    simp [hand_noPl args' ts [b] S.σ hn]
  simp only [callT, hP, Option.bind_some, ho, List.any_cons, List.any_nil, hS', Option.getD_some, hne', Bool.or_false, Bool.false_eq_true, if_false, List.map_cons, List.map_nil, hcs, h, Option.map_some, putBack]
end M
end Go.Proofs.Ytgkdehfbeejlfaa
