/- SOUNDNESS 14: regions without an order. -/
import Derived.Test.YtgkdehfbeejlfaaMc14
set_option linter.unusedVariables false
set_option linter.unusedSimpArgs false
namespace Go.Proofs.Ytgkdehfbeejlfaa
namespace M

/-! ### Registers that later operations leave alone -/
theorem putT_other {r : Regs} {dst : Option Nat} {v : AV} {t : Nat} (h : dst ≠ some t) : (putT r dst v).getD t (.tup []) = r.getD t (.tup []) := by
  cases dst with
  | none => rfl
  | some d =>
    have hne : d ≠ t := fun e => h (by rw [e])
    simp only [putT, List.getD, List.getElem?_set_ne hne]

theorem stepT_put {cx : Cx} {C : Oracle} {ops : Array Oper} {o : Oper} {r r' : Regs} {S S' : St} (h : stepT cx C ops o r S = some (r', S')) : ∃ v, r' = putT r o.dst v := by
  simp only [stepT, Option.bind_eq_some_iff] at h
  obtain ⟨b, _, h⟩ := h
  split at h
  · obtain ⟨x, _, h⟩ := Option.map_eq_some_iff.1 h
    cases h; exact ⟨_, rfl⟩
  · cases h; exact ⟨_, rfl⟩

theorem opsT_keeps {cx : Cx} {C : Oracle} {ops : Array Oper} {t : Nat} : ∀ (l : List Oper) {r r' : Regs} {S S' : St}, opsT cx C ops l r S = some (r', S') → (∀ o ∈ l, o.dst ≠ some t) → r'.getD t (.tup []) = r.getD t (.tup [])
  | [], r, r', S, S', h, _ => by cases h; rfl
  | o :: l, r, r', S, S', h, hd => by
    simp only [opsT, Option.bind_eq_some_iff] at h
    obtain ⟨⟨r1, S1⟩, h1, h2⟩ := h
    obtain ⟨v, rfl⟩ := stepT_put h1
    rw [opsT_keeps l h2 fun o ho => hd o (by simp [ho]), putT_other (hd o (by simp))]

theorem ev_keeps {r r' : Regs} {x : Operand} (h : ∀ t, x = .tmp t → r'.getD t (.tup []) = r.getD t (.tup [])) : ev r' x = ev r x := by
  cases x with
  | tmp t => simp only [ev, h t rfl]
  | _ => rfl

theorem wantedT_put {ops : Array Oper} {r : Regs} {o : Oper} {dst : Option Nat} {v : AV} (h : ∀ d, dst = some d → d ∉ o.looksAt ops) : wantedT ops (putT r dst v) o = wantedT ops r o := by
  cases dst with
  | none => rfl
  | some d =>
    unfold wantedT
    cases hg : o.guard with
    | none => rfl
    | some jw =>
      obtain ⟨j, want⟩ := jw
      simp only
      cases hd : (ops[j]?).bind (·.dst) with
      | none => rfl
      | some t =>
        have hne : d ≠ t := fun e => h d rfl (by subst e; simp [Oper.looksAt, hg, hd])
        simp only [putT, List.getElem?_set_ne hne]

theorem opT_put {cx : Cx} {C : Oracle} {ops : Array Oper} {r : Regs} {S : St} {o : Oper} {dst : Option Nat} {v : AV} (h : ∀ d, dst = some d → d ∉ o.looksAt ops) : opT cx C (putT r dst v) S o.op = opT cx C r S o.op :=
  opT_congr o.op fun x hx => ev_keeps fun t ht => putT_other fun e => h t e (by
    subst ht
    exact List.mem_append_left _ (List.mem_filterMap.2 ⟨.tmp t, by simpa using hx, rfl⟩))

/-- The final registers say that the two do not meet. -/
def Dis (r : Regs) (x y : Oper) : Prop := ((match x.op with | .alloc _ | .box _ _ | .makeSlice _ _ _ => !(foot r x).isEmpty | _ => true) = true) ∧ ∀ b ∈ foot r x, b ∉ foot r y

/-- Nothing later writes what the operation looks at, or its result. -/
def Stays (ops : Array Oper) (o : Oper) (later : List Oper) : Prop := ∀ k ∈ later, ∀ d, k.dst = some d → d ∉ o.looksAt ops ∧ o.dst ≠ some d
def Own1 (ops : Array Oper) (o : Oper) : Prop := ∀ d, o.dst = some d → d ∉ o.looksAt ops

theorem looks_mem {ops : Array Oper} {o : Oper} {t : Nat} (h : Operand.tmp t ∈ o.op.operands) : t ∈ o.looksAt ops :=
  List.mem_append_left _ (List.mem_filterMap.2 ⟨.tmp t, by simpa using h, rfl⟩)

theorem foot_congr' {cx : Cx} {r r' : Regs} {o : Oper} (hk : kd cx o.op = .load ∨ kd cx o.op = .write) (h : ∀ x ∈ o.op.operands, ev r x = ev r' x) : foot r o = foot r' o := by
  obtain ⟨dst, op, type, pos, after, guard⟩ := o
  simp only at hk h
  cases op
  case load t a => simp only [foot]; rw [h a (by simp [Op.operands])]
  case store t a x => simp only [foot]; rw [h a (by simp [Op.operands])]
  case alloc t => simp only [kd] at hk; rcases hk with hk | hk <;> cases hk
  case makeSlice t l c => simp only [kd] at hk; rcases hk with hk | hk <;> cases hk
  case box t x => simp only [kd] at hk; split at hk <;> rcases hk with hk | hk <;> cases hk
  case call c =>
    simp only [foot]
    rw [evs_congr (r := r) (r' := r') (xs := c.args.toList) fun x hx => h x (by simp only [Op.operands, Call.operands, Array.mem_append]; exact .inr (by simpa using hx))]
    cases hc : c.callee with
    | value f => simp only [hc]; rw [h f (by simp [Op.operands, Call.operands, hc])]
    | _ => simp only [hc]
  all_goals (simp only [foot])

theorem alloc_foot {cx : Cx} {o : Oper} (hk : kd cx o.op = .alloc) : (∀ r, foot r o = (o.dst.map fun d => (r.getD d (.tup [])).made).getD []) ∧ ∀ r, (match o.op with | .alloc _ | .box _ _ | .makeSlice _ _ _ => !(foot r o).isEmpty | _ => true) = !(foot r o).isEmpty := by
  obtain ⟨dst, op, type, pos, after, guard⟩ := o
  simp only at hk
  cases op
  case alloc t => exact ⟨fun r => rfl, fun r => rfl⟩
  case makeSlice t l c => exact ⟨fun r => rfl, fun r => rfl⟩
  case box t x => exact ⟨fun r => rfl, fun r => rfl⟩
  case call c =>
    simp only [kd] at hk
    split at hk
    · cases hk
    · cases hk
    · split at hk
      · cases hk
      · split at hk <;> cases hk
    · cases hk
  all_goals (simp only [kd] at hk; cases hk)

theorem swap_step {cx : Cx} {C : Oracle} {ops : Array Oper} {oj oi : Oper} (hap : oj.apart ops oi = true) {rest : List Oper} {r : Regs} {S : St} {X : Regs × St} (h : opsT cx C ops (oj :: oi :: rest) r S = some X)
    (hk : freeK (kd cx oj.op) (kd cx oi.op) = true ∨ (looseK (kd cx oj.op) (kd cx oi.op) = true ∧ Dis X.1 oj oi ∧ Stays ops oj rest ∧ Stays ops oi rest ∧ Own1 ops oj ∧ Own1 ops oi)) : opsT cx C ops (oi :: oj :: rest) r S = some X := by
  obtain ⟨p1, p2, p3⟩ := Oper.apart_spec hap
  simp only [opsT, Option.bind_eq_some_iff] at h
  obtain ⟨⟨r1, S1⟩, hj, ⟨r2, S2⟩, hi, hrest⟩ := h
  simp only at hi hrest
  have comm : ∀ (v u : AV), putT (putT r oj.dst v) oi.dst u = putT (putT r oi.dst u) oj.dst v := by
    intro v u
    cases h1 : oj.dst with
    | none => rfl
    | some d =>
      cases h2 : oi.dst with
      | none => rfl
      | some e =>
        have hne : d ≠ e := fun e' => p2 d h1 (by rw [h2, e'])
        simp only [putT, List.set_comm _ _ hne]
  simp only [stepT, Option.bind_eq_some_iff] at hj hi
  obtain ⟨bj, wj, hj⟩ := hj
  obtain ⟨bi, wi, hi⟩ := hi
  have fin : ∀ {q : Regs × St}, stepT cx C ops oi r S = some q → stepT cx C ops oj q.1 q.2 = some (r2, S2) → opsT cx C ops (oi :: oj :: rest) r S = some X := by
    intro q h1 h2
    simp only [opsT, h1, Option.bind_some, h2, hrest]
  cases bj with
  | false =>
    simp only [Bool.false_eq_true, if_false, Option.some.injEq, Prod.mk.injEq] at hj
    obtain ⟨rfl, rfl⟩ := hj
    rw [wantedT_put p1] at wi
    cases bi with
    | false =>
      simp only [Bool.false_eq_true, if_false, Option.some.injEq, Prod.mk.injEq] at hi
      obtain ⟨rfl, rfl⟩ := hi
      refine fin (q := (putT r oi.dst (.tup []), S)) (by simp only [stepT, wi, Option.bind_some, Bool.false_eq_true, if_false]) ?_
      simp only [stepT, wantedT_put p3, wj, Option.bind_some, Bool.false_eq_true, if_false, comm]
    | true =>
      simp only [if_true, Option.map_eq_some_iff, Prod.mk.injEq] at hi
      obtain ⟨⟨vi, S3⟩, hi, rfl, rfl⟩ := hi
      rw [opT_put p1] at hi
      refine fin (q := (putT r oi.dst vi, S3)) (by simp only [stepT, wi, Option.bind_some, if_true, hi, Option.map_some]) ?_
      simp only [stepT, wantedT_put p3, wj, Option.bind_some, Bool.false_eq_true, if_false, comm]
  | true =>
    simp only [if_true, Option.map_eq_some_iff, Prod.mk.injEq] at hj
    obtain ⟨⟨vj, S4⟩, hj, rfl, rfl⟩ := hj
    rw [wantedT_put p1] at wi
    cases bi with
    | false =>
      simp only [Bool.false_eq_true, if_false, Option.some.injEq, Prod.mk.injEq] at hi
      obtain ⟨rfl, rfl⟩ := hi
      refine fin (q := (putT r oi.dst (.tup []), S)) (by simp only [stepT, wi, Option.bind_some, Bool.false_eq_true, if_false]) ?_
      simp only [stepT, wantedT_put p3, wj, Option.bind_some, if_true, opT_put p3, hj, Option.map_some, comm]
    | true =>
      simp only [if_true, Option.map_eq_some_iff, Prod.mk.injEq] at hi
      obtain ⟨⟨vi, S3⟩, hi, rfl, rfl⟩ := hi
      rw [opT_put p1] at hi
      obtain ⟨S1', g1, g2⟩ := swap_op hj hi (hk.imp id fun ⟨lk, dis, sj, si, oj1, oi1⟩ => by
        obtain ⟨Xr, XS⟩ := X
        simp only at dis
        have kj : ∀ t, t ∈ oj.looksAt ops → Xr.getD t (.tup []) = r.getD t (.tup []) := fun t ht => by
          rw [opsT_keeps rest hrest fun o ho e => (sj o ho t e).1 ht, putT_other fun e => p3 t e ht, putT_other fun e => oj1 t e ht]
        have ki : ∀ t, t ∈ oi.looksAt ops → Xr.getD t (.tup []) = r.getD t (.tup []) := fun t ht => by
          rw [opsT_keeps rest hrest fun o ho e => (si o ho t e).1 ht, putT_other fun e => oi1 t e ht, putT_other fun e => p1 t e ht]
        have iw : kd cx oi.op = .load ∨ kd cx oi.op = .write := by
          cases hkj : kd cx oj.op <;> cases hki : kd cx oi.op <;> rw [hkj, hki] at lk <;> simp_all [looseK]
        have fi : foot Xr oi = foot r oi := foot_congr' iw fun x hx => ev_keeps fun t ht => ki t (looks_mem (ht ▸ hx))
        refine ⟨lk, fun hna b hb => ?_, fun ha b hb => ?_⟩
        · have jw : kd cx oj.op = .load ∨ kd cx oj.op = .write := by
            cases hkj : kd cx oj.op <;> cases hki : kd cx oi.op <;> rw [hkj, hki] at lk <;> simp_all [looseK]
          have fj : foot Xr oj = foot r oj := foot_congr' jw fun x hx => ev_keeps fun t ht => kj t (looks_mem (ht ▸ hx))
          rw [← fi]
          exact dis.2 b (by rw [fj]; exact hb)
        · obtain ⟨f1, f2⟩ := alloc_foot ha
          have hne := dis.1
          rw [f2 Xr] at hne
          rw [← fi]
          refine dis.2 b ?_
          rw [f1 Xr] at hne ⊢
          cases hd : oj.dst with
          | none => rw [hd] at hne; simp at hne
          | some d =>
            rw [hd] at hne
            simp only [Option.map_some, Option.getD_some] at hne ⊢
            have e1 : Xr.getD d (.tup []) = (putT (putT r oj.dst vj) oi.dst vi).getD d (.tup []) := opsT_keeps rest hrest fun o ho e => (sj o ho d e).2 hd
            have e2 : (putT (putT r oj.dst vj) oi.dst vi).getD d (.tup []) = (putT r oj.dst vj).getD d (.tup []) := putT_other fun e => p2 d hd e
            rw [hd] at e1 e2
            rw [e1, e2] at hne ⊢
            simp only [putT, List.getD, List.getElem?_set_self'] at hne ⊢
            cases hr : r[d]? with
            | none => rw [hr] at hne; simp [AV.made] at hne
            | some y => simpa using hb)
      refine fin (q := (putT r oi.dst vi, S1')) (by simp only [stepT, wi, Option.bind_some, if_true, g1, Option.map_some]) ?_
      simp only [stepT, wantedT_put p3, wj, Option.bind_some, if_true, opT_put p3, g2, Option.map_some, comm]

/-- What may be said of a pair of which the second may come first. -/
def PairOk (cx : Cx) (ops : Array Oper) (r : Regs) (oj oi : Oper) (rest : List Oper) : Prop := oj.apart ops oi = true ∧
  (freeK (kd cx oj.op) (kd cx oi.op) = true ∨ (looseK (kd cx oj.op) (kd cx oi.op) = true ∧ Dis r oj oi ∧ Stays ops oj rest ∧ Stays ops oi rest ∧ Own1 ops oj ∧ Own1 ops oi))

theorem bubble {cx : Cx} {C : Oracle} {ops : Array Oper} {oi : Oper} {post : List Oper} {X : Regs × St} : ∀ (pre : List Oper) {r : Regs} {S : St}, opsT cx C ops (pre ++ oi :: post) r S = some X →
    (∀ (p : List Oper) (oj : Oper) (q : List Oper), pre = p ++ oj :: q → PairOk cx ops X.1 oj oi (q ++ post)) → opsT cx C ops (oi :: (pre ++ post)) r S = some X
  | [], r, S, h, _ => h
  | oj :: pre, r, S, h, hp => by
    simp only [List.cons_append, opsT, Option.bind_eq_some_iff] at h
    obtain ⟨⟨r1, S1⟩, hj, h⟩ := h
    have h1 := bubble pre h fun p o q e => hp (oj :: p) o q (by rw [e]; rfl)
    obtain ⟨ap, k⟩ := hp [] oj pre rfl
    refine swap_step ap ?_ k
    rw [opsT, hj, Option.bind_some]
    exact h1

end M
end Go.Proofs.Ytgkdehfbeejlfaa
