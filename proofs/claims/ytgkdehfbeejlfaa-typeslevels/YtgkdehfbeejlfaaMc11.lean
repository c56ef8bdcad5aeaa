/- SOUNDNESS 10: a step of a region; regions in order; what an operation looks at. -/
import Derived.Test.YtgkdehfbeejlfaaMc10
set_option linter.unusedVariables false
set_option linter.unusedSimpArgs false
namespace Go.Proofs.Ytgkdehfbeejlfaa
namespace M

theorem wantedT_ok {G : Gh} {w : World} {ops : Array Oper} {r : Regs} {a : Act} {o : Oper} {b : Bool} (hr : VRs G w r a.tmps.toList) (h : wantedT ops r o = some b) : Region.wanted o (yielded ops a.tmps) = b := by
  unfold wantedT at h
  unfold Region.wanted
  cases hg : o.guard with
  | none => rw [hg] at h; simpa using h
  | some jw =>
    obtain ⟨j, want⟩ := jw
    rw [hg] at h
    simp only at h ⊢
    unfold yielded
    cases hd : (ops[j]?).bind (·.dst) with
    | none => rw [hd] at h; simp only [Option.some.injEq] at h; subst h; simp
    | some d =>
      rw [hd] at h
      simp only [Option.bind_some] at h ⊢
      cases hrd : r[d]? with
      | none =>
        rw [hrd] at h
        simp only [Option.some.injEq] at h; subst h
        have : a.tmps[d]? = none := by
          rw [← Array.getElem?_toList]
          rw [List.getElem?_eq_none_iff] at hrd ⊢
          rw [← hr.1]; exact hrd
        rw [this]; simp
      | some v =>
        obtain ⟨u, hu, hv⟩ := hr.get hrd
        rw [Array.getElem?_toList] at hu
        rw [hrd] at h
        rw [hu]
        cases hv <;> simp only [Option.some.injEq] at h <;> (try (subst h; simp; done)) <;> (try (cases h; done))

theorem putT_rel {G : Gh} {w : World} {r : Regs} {a : Act} {d : Option Tmp} {v : AV} {u : Value} (hr : VRs G w r a.tmps.toList) (hv : VR G w v u) : VRs G w (putT r d v) (a.put d u).tmps.toList := by
  cases d with
  | none => exact hr
  | some d =>
    simp only [putT, Act.put, Array.toList_setIfInBounds]
    exact hr.set hv d

theorem put_defers' (a : Act) (d : Option Tmp) (u : Value) : (a.put d u).defers = a.defers := by cases d <;> rfl

theorem stepT_wp {cx : Cx} (ok : CxOk cx) {C : Oracle} (cs : CSound cx C) {G : Gh} {w : World} {ops : Array Oper} {i : Nat} {o : Oper} {r r' : Regs} {S S' : St} {a : Act} (ho : ops[i]? = some o) (hr : VRs G w r a.tmps.toList) (sr : SR G S w)
    (h : stepT cx C ops o r S = some (r', S')) {K : Act → World → Prop} {Q : Exit → Act → World → Prop} (hK : ∀ a' w' G', VRs G' w' r' a'.tmps.toList → SR G' S' w' → Mv G w G' w' → a'.defers = a.defers → K a' w') :
    wpOp cx.P ops Q i K a w := by
  simp only [stepT, Option.bind_eq_some_iff] at h
  obtain ⟨b, hb, h⟩ := h
  unfold wpOp
  simp only [ho, wantedT_ok hr hb]
  cases b with
  | false =>
    simp only [Bool.false_eq_true, if_false, Option.some.injEq, Prod.mk.injEq] at h ⊢
    obtain ⟨rfl, rfl⟩ := h
    exact hK _ w G (putT_rel hr (VR.noval G w)) sr (Mv.refl G w) (put_defers' a _ _)
  | true =>
    simp only [if_true, Option.map_eq_some_iff, Prod.mk.injEq] at h ⊢
    obtain ⟨⟨v, S1⟩, h1, rfl, rfl⟩ := h
    exact .inl (op_wp ok cs hr sr h1 fun u w' G' h2 h3 h4 => hK _ w' G' (putT_rel (hr.mono h4.ge) h2) h3 h4 (put_defers' a _ _))

/-- The operations of some indices. -/
def pickOps (ops : Array Oper) (l : List Nat) : List Oper := l.filterMap (ops[·]?)

theorem pick_range (ops : Array Oper) : pickOps ops (List.range ops.size) = ops.toList := by
  unfold pickOps
  apply List.ext_getElem?
  intro i
  have : ∀ n, n ≤ ops.size → (List.range n).filterMap (ops[·]?) = ops.toList.take n := by
    intro n
    induction n with
    | zero => simp
    | succ n ih =>
      intro hn
      rw [List.range_succ, List.filterMap_append, ih (by omega)]
      have hlt : n < ops.size := by omega
      simp [List.take_add_one, hlt]
  rw [this ops.size (Nat.le_refl _), List.take_of_length_le (by simp)]

theorem opsT_wp {cx : Cx} (ok : CxOk cx) {C : Oracle} (cs : CSound cx C) {ops : Array Oper} {Q : Exit → Act → World → Prop} : ∀ (l : List Nat) {G : Gh} {w : World} {r r' : Regs} {S S' : St} {a : Act}, VRs G w r a.tmps.toList → SR G S w →
    opsT cx C ops (pickOps ops l) r S = some (r', S') → (∀ a' w' G', VRs G' w' r' a'.tmps.toList → SR G' S' w' → Mv G w G' w' → a'.defers = a.defers → Q .normal a' w') → wpOps cx.P ops Q l a w
  | [], G, w, r, r', S, S', a, hr, sr, h, hQ => by
    simp only [pickOps, List.filterMap_nil, opsT, Option.some.injEq, Prod.mk.injEq] at h
    obtain ⟨rfl, rfl⟩ := h
    exact hQ a w G hr sr (Mv.refl G w) rfl
  | i :: l, G, w, r, r', S, S', a, hr, sr, h, hQ => by
    rw [wpOps_cons]
    cases ho : ops[i]? with
    | none =>
      unfold wpOp
      simp only [ho]
      refine opsT_wp ok cs l hr sr ?_ hQ
      simpa only [pickOps, List.filterMap_cons, ho] using h
    | some o =>
      simp only [pickOps, List.filterMap_cons, ho, opsT, Option.bind_eq_some_iff] at h
      obtain ⟨⟨r1, S1⟩, h1, h2⟩ := h
      exact stepT_wp ok cs ho hr sr h1 fun a' w' G' q1 q2 q3 q4 => opsT_wp ok cs l q1 q2 h2 fun a'' w'' G'' p1 p2 p3 p4 => hQ a'' w'' G'' p1 p2 (q3.trans p3) (p4.trans q4)

theorem region_wp {cx : Cx} (ok : CxOk cx) {C : Oracle} (cs : CSound cx C) {id : Nat} {ops : Array Oper} {Q : Exit → Act → World → Prop} {G : Gh} {w : World} {r r' : Regs} {S S' : St} {a : Act} (hr : VRs G w r a.tmps.toList) (sr : SR G S w)
    (h : opsT cx C ops ops.toList r S = some (r', S')) (hQ : ∀ a' w' G', VRs G' w' r' a'.tmps.toList → SR G' S' w' → Mv G w G' w' → a'.defers = a.defers → Q .normal a' w') : (Code.region id ops false).wp cx.P Q a w :=
  wp_region (opsT_wp ok cs _ hr sr (by rw [pick_range]; exact h) hQ)

/-! ### What an operation looks at -/
theorem evs_congr {r r' : Regs} : ∀ {xs : List Operand}, (∀ x ∈ xs, ev r x = ev r' x) → evs r xs = evs r' xs
  | [], _ => rfl
  | x :: xs, h => by simp only [evs, h x (by simp), evs_congr (xs := xs) fun y hy => h y (by simp [hy])]

theorem evp_congr {r r' : Regs} : ∀ {xs : List (Nat × Operand)}, (∀ x ∈ xs.map (·.2), ev r x = ev r' x) → evp r xs = evp r' xs
  | [], _ => rfl
  | x :: xs, h => by
    simp only [evp, h x.2 (by simp), evp_congr (xs := xs) fun y hy => h y (by simp only [List.map_cons, List.mem_cons]; exact .inr hy)]

theorem opT_congr {cx : Cx} {C : Oracle} {r r' : Regs} {S : St} (op : Op) (h : ∀ x ∈ op.operands, ev r x = ev r' x) : opT cx C r S op = opT cx C r' S op := by
  cases op
  case build t ps => simp only [opT]; rw [evp_congr fun x hx => h x (by simpa [Op.operands] using hx)]
  case buildSlice t n ps => simp only [opT]; rw [evp_congr fun x hx => h x (by simpa [Op.operands] using hx)]
  case makeFunc fn fs cs =>
    cases fn with
    | func f => simp only [opT]; rw [evs_congr (r := r) (r' := r') (xs := cs.toList) fun x hx => h x (by simp only [Op.operands, Array.mem_append]; exact .inr (by simpa using hx))]
    | _ => rfl
  case unOp o t x => cases o <;> simp only [opT] <;> rw [h x (by simp [Op.operands])]
  case slice t x lo hi mx =>
    simp only [opT]
    rw [h x (by simp [Op.operands])]
    have e : ∀ y : Option Operand, (∀ z ∈ y, z ∈ (Op.slice t x lo hi mx).operands) → y.map (ev r) = y.map (ev r') := fun y hy => by
      cases y with
      | none => rfl
      | some z => simp only [Option.map_some]; rw [h z (hy z rfl)]
    rw [e lo fun z hz => by simp [Op.operands, Option.mem_def.1 hz], e hi fun z hz => by simp [Op.operands, Option.mem_def.1 hz], e mx fun z hz => by simp [Op.operands, Option.mem_def.1 hz]]
  case call c =>
    simp only [opT]
    rw [evs_congr (r := r) (r' := r') (xs := c.args.toList) fun x hx => h x (by simp only [Op.operands, Call.operands, Array.mem_append]; exact .inr (by simpa using hx))]
    cases hc : c.callee with
    | value f => simp only [hc]; rw [h f (by simp [Op.operands, Call.operands, hc])]
    | _ => simp only [hc]
  all_goals first
    | rfl
    | (simp only [opT]; simp only [Op.operands] at h; simp_all; done)
    | skip

theorem foot_congr {r r' : Regs} (o : Oper) (h : ∀ x ∈ o.op.operands, ev r x = ev r' x) (hd : ∀ d, o.dst = some d → r.getD d (.tup []) = r'.getD d (.tup [])) : foot r o = foot r' o := by
  obtain ⟨dst, op, type, pos, after, guard⟩ := o
  simp only at h hd
  have e : ∀ (y : Option Operand), (∀ z ∈ y, ev r z = ev r' z) → y.map (ev r) = y.map (ev r') := fun y hy => by
    cases y with
    | none => rfl
    | some z => simp only [Option.map_some]; rw [hy z rfl]
  have hdd : (dst.map fun d => (r.getD d (.tup [])).made) = dst.map fun d => (r'.getD d (.tup [])).made := by
    cases dst with
    | none => rfl
    | some d => simp only [Option.map_some]; rw [hd d rfl]
  cases op <;> simp only [foot]
  case load t a => rw [h a (by simp [Op.operands])]
  case store t a x => rw [h a (by simp [Op.operands])]
  case alloc t => rw [hdd]
  case box t x => rw [hdd]
  case makeSlice t l c => rw [hdd]
  case call c =>
    rw [evs_congr (r := r) (r' := r') (xs := c.args.toList) fun x hx => h x (by simp only [Op.operands, Call.operands, Array.mem_append]; exact .inr (by simpa using hx))]
    cases hc : c.callee with
    | value f => simp only [hc]; rw [h f (by simp [Op.operands, Call.operands, hc])]
    | _ => simp only [hc]

end M
end Go.Proofs.Ytgkdehfbeejlfaa
