/- A part of the proof: Mc5, Mc6. -/
import Derived.Test.YthclcchnodjjpaaGreatDoorG04
/- SOUNDNESS 4: the other operations that are no call of a function. -/
set_option linter.unusedVariables false
set_option linter.unusedSimpArgs false
namespace Go.Proofs.YthclcchnodjjpaaGreatDoor
namespace M

/-- The machine's number or bool. -/
def conc : AV → Value
  | .int k n => .int k n
  | .bool b => .bool b
  | _ => Go.undef

theorem intOp_ok {P : Program} {w : World} {op : BinOp} {k : IntKind} {a b : Int} {t : TypeId} {v : AV} (h : intOp op k a b = some v) (G : Gh) (x y : Operand) :
    (do eqGuard op t x y (.int k a) (.int k b); binOp op t (.int k a) (.int k b) : Sem Value).run P w = .ok (conc v) w ∧ VR G w v (conc v) := by
  cases op <;> simp only [intOp, Option.some.injEq] at h <;> (try (cases h; done)) <;> (try (split at h)) <;> (try (cases h; done))
  all_goals cases h
  all_goals refine ⟨?_, ?_⟩
  all_goals first
    | exact .int
    | exact .bool
    | (simp [eqGuard_at_int, binOp, Op.intArith, Op.intDiv, Op.intCmp, conc, *]; done)

theorem isPtr_ok {cx : Cx} (ok : CxOk cx) {t : Nat} (h : isPtr cx t = true) : ∃ e, cx.P.underlying t = some (.pointer e) := by
  unfold isPtr at h
  split at h
  · rename_i ti ht
    obtain ⟨i, z, _, _, _, _, _, _, hk⟩ := ok.ty t ti ht
    split at h
    · rename_i he
      unfold KindOk at hk
      rw [he] at hk
      exact hk.1
    · cases h
  · cases h

theorem notNil_ok {G : Gh} {w : World} {v : AV} {x : Value} {b : Bool} (h : VR G w v x) (hb : v.notNil = some b) : ∃ a : Option Addr, x = .pointer a ∧ a.isSome = b := by
  cases h <;> simp only [AV.notNil, Option.some.injEq] at hb <;> (try (cases hb; done))
  · subst hb; exact ⟨_, rfl, rfl⟩
  · subst hb; exact ⟨_, rfl, rfl⟩
  · subst hb; exact ⟨none, rfl, rfl⟩

theorem binT_ok {cx : Cx} (ok : CxOk cx) {G : Gh} {w : World} {op : BinOp} {t : Nat} {p q v : AV} {a b : Value} (hp : VR G w p a) (hq : VR G w q b) (h : binT cx op t p q = some v) (x y : Operand) :
    ∃ u, (do eqGuard op t x y a b; binOp op t a b : Sem Value).run cx.P w = .ok u w ∧ VR G w v u := by
  have ptr : ∀ (c d : Option Addr) (r : Bool), (c = none ∨ d = none) → ((c.isNone && d.isNone) = r) → isPtr cx t = true → (op = .eql ∨ op = .neq) →
      ∃ u, (do eqGuard op t x y (.pointer c) (.pointer d); binOp op t (.pointer c) (.pointer d) : Sem Value).run cx.P w = .ok u w ∧ u = .bool (if op = .eql then r else !r) := by
    intro c d r hcd hr ht hop
    obtain ⟨e, he⟩ := isPtr_ok ok ht
    have key : (Op.equal t (.pointer c) (.pointer d)).run cx.P w = .ok r w := by
      unfold Op.equal Op.maxDepth
      unfold Op.equalIn
      rw [Sem.run_bind, run_underlying he]
      simp only [Result.andThen_ok]
      subst hr
      cases c <;> cases d <;> simp at hcd ⊢
    rcases hop with rfl | rfl
    · exact ⟨.bool r, by simp [eqGuard_at_pointer, binOp, key], by simp⟩
    · exact ⟨.bool !r, by simp [eqGuard_at_pointer, binOp, key], by simp⟩
  have fin : ∀ {z : AV} {c d : Option Addr}, (c = none ∨ d = none) → (∀ nn, z.notNil = some nn → (c.isNone && d.isNone) = !nn) → nilT cx op t z = some v →
      ∃ u, (do eqGuard op t x y (.pointer c) (.pointer d); binOp op t (.pointer c) (.pointer d) : Sem Value).run cx.P w = .ok u w ∧ VR G w v u := by
    intro z c d hcd hr hv
    unfold nilT at hv
    by_cases ht : isPtr cx t = true
    · rw [if_pos ht] at hv
      obtain ⟨nn, hnn, hv⟩ := Option.bind_eq_some_iff.1 hv
      cases op <;> simp only [Option.some.injEq] at hv <;> (try (cases hv; done))
      · obtain ⟨u, h1, rfl⟩ := ptr c d (!nn) hcd (hr nn hnn) ht (.inl rfl)
        exact ⟨_, h1, by subst hv; simpa using VR.bool⟩
      · obtain ⟨u, h1, rfl⟩ := ptr c d (!nn) hcd (hr nn hnn) ht (.inr rfl)
        exact ⟨_, h1, by subst hv; simpa using VR.bool⟩
    · rw [if_neg ht] at hv; cases hv
  unfold binT at h
  split at h
  · rename_i k m k' n
    by_cases hk : k = k'
    · rw [if_pos hk] at h
      subst hk
      cases hp; cases hq
      obtain ⟨h1, h2⟩ := intOp_ok (P := cx.P) (w := w) (t := t) h G x y
      exact ⟨_, h1, h2⟩
    · rw [if_neg hk] at h; cases h
  · cases hp
    have : ∃ nn, q.notNil = some nn := by
      unfold nilT at h
      split at h
      · obtain ⟨nn, hnn, _⟩ := Option.bind_eq_some_iff.1 h; exact ⟨nn, hnn⟩
      · cases h
    obtain ⟨nn, hnn⟩ := this
    obtain ⟨d, rfl, hd⟩ := notNil_ok hq hnn
    exact fin (.inl rfl) (fun mm hmm => by rw [hnn] at hmm; cases hmm; cases d <;> simp_all) h
  · cases hq; cases hp
    exact fin (.inr rfl) (fun mm hmm => by simp only [AV.notNil, Option.some.injEq] at hmm; subst hmm; rfl) h
  · cases hq; cases hp
    exact fin (.inr rfl) (fun mm hmm => by simp only [AV.notNil, Option.some.injEq] at hmm; subst hmm; rfl) h
  · cases h

/-! ### Addresses, slices of slices, fields -/
theorem natOf_some {v : AV} {most n : Nat} (hn : natOf v most = some n) : v = .int .i64 n ∧ n ≤ most := by
  unfold natOf at hn
  obtain ⟨m, hm, hn⟩ := Option.bind_eq_some_iff.1 hn
  by_cases hc : 0 ≤ m ∧ m ≤ (most : Int)
  · rw [if_pos hc] at hn
    cases hn
    unfold intOf at hm
    split at hm
    · cases hm
      refine ⟨?_, by omega⟩
      congr 1; omega
    · cases hm
  · rw [if_neg hc] at hn; cases hn

theorem natOf_ok {G : Gh} {w : World} {v : AV} {x : Value} {most n : Nat} (h : VR G w v x) (hn : natOf v most = some n) : x = .int .i64 n ∧ n ≤ most := by
  obtain ⟨rfl, h1⟩ := natOf_some hn
  cases h
  exact ⟨rfl, h1⟩

/-- An optional bound, as the machine has it. -/
def OptRel (G : Gh) (w : World) : Option (Option AV) → Option Value → Prop
  | none, none => True
  | some (some v), some x => VR G w v x
  | some none, some _ => True
  | _, _ => False

theorem sliceT_ok {cx : Cx} (ok : CxOk cx) {G : Gh} {w : World} {t : Nat} {v r : AV} {x : Value} {lo hi mx : Option (Option AV)} {lo' hi' mx' : Option Value} (hv : VR G w v x) (h1 : OptRel G w lo lo') (h2 : OptRel G w hi hi') (h3 : OptRel G w mx mx')
    (h : sliceT cx t v lo hi mx = some r) (hmh : mx.isSome = true → hi.isSome = true) : ∃ u, (Instr.sliceAt t x lo' hi' mx').run cx.P w = .ok u w ∧ VR G w r u := by
  unfold sliceT at h
  simp only [Option.bind_eq_some_iff] at h
  obtain ⟨ti, ht, h⟩ := h
  obtain ⟨i, z, hi0, hs, _, hz, hc, hzs, hk⟩ := ok.ty t ti ht
  split at h
  · rename_i e es o he
    unfold KindOk at hk
    rw [he] at hk
    obtain ⟨hu, _⟩ := hk
    simp only [Option.bind_eq_some_iff] at h
    obtain ⟨te, hte, m, hm, n, hn, l, hl, h⟩ := h
    have hall : es.all (fun c => c.length == te.size) = true := by
      cases hq : es.all (fun c => c.length == te.size) with
      | true => rfl
      | false => rw [if_pos hq] at h; cases h
    rw [if_neg (by rw [hall]; simp)] at h
    cases h
    obtain ⟨ie, _, hie, hse, _, _, _, _, _⟩ := ok.ty e te hte
    cases hv with
    | @sl _ _ A cap sz u hcap hzz ha hr ho =>
      have em : ∃ M : Nat, (match mx' with | some v => Instr.sliceBound v cap .slice3Acap | none => (pure cap : Sem Nat)).run cx.P w = .ok M w ∧ (mx' = none → M = cap) ∧ (∀ q, mx' = some q → M = m) ∧ m ≤ es.length ∧ m ≤ M ∧ (mx' = none → m = es.length) ∧ mx'.isSome = mx.isSome := by
        cases mx' with
        | none =>
          cases mx with
          | none => simp [optNat] at hm; subst hm; exact ⟨cap, rfl, fun _ => rfl, fun _ e => (by cases e), Nat.le_refl _, hcap, fun _ => rfl, rfl⟩
          | some q => cases q <;> simp [OptRel] at h3
        | some q =>
          cases mx with
          | none => simp [OptRel] at h3
          | some q' =>
            cases q' with
            | none => simp [optNat] at hm
            | some av =>
              simp only [optNat] at hm
              obtain ⟨rfl, hle⟩ := natOf_ok (by simpa [OptRel] using h3) hm
              refine ⟨m, ?_, fun e => (by cases e), fun _ _ => rfl, hle, Nat.le_refl _, fun e => (by cases e), rfl⟩
              have : (0 : Int) ≤ m ∧ (m : Int) ≤ cap := by omega
              simp [Instr.sliceBound, asIntOf, this]
      obtain ⟨M, em1, em2, em3, em4, em5, em6, em7⟩ := em
      have eh : (match hi', mx' with
          | some v, some _ => Instr.sliceBound v M .slice3B
          | some v, none => Instr.sliceBound v M .sliceAcap
          | none, none => (pure es.length : Sem Nat)
          | none, some _ => stuck "Slice: max without high").run cx.P w = .ok n w ∧ n ≤ m := by
        cases hi' with
        | none =>
          cases hi with
          | none =>
            have : mx' = none := by
              cases mx' with
              | none => rfl
              | some q => have := hmh (by rw [← em7]; rfl); simp at this
            subst this
            simp [optNat] at hn; subst hn
            exact ⟨rfl, by rw [em6 rfl]; exact Nat.le_refl _⟩
          | some q => cases q <;> simp [OptRel] at h2
        | some q =>
          cases hi with
          | none => simp [OptRel] at h2
          | some q' =>
            cases q' with
            | none => simp [optNat] at hn
            | some av =>
              simp only [optNat] at hn
              obtain ⟨rfl, hle⟩ := natOf_ok (by simpa [OptRel] using h2) hn
              have : (0 : Int) ≤ n ∧ (n : Int) ≤ M := by omega
              cases mx' <;> exact ⟨by simp [Instr.sliceBound, asIntOf, this], hle⟩
      obtain ⟨eh1, eh2⟩ := eh
      have el : (match lo' with
          | some v => Instr.sliceBound v n (if mx'.isSome then .slice3C else .sliceB)
          | none => (pure 0 : Sem Nat)).run cx.P w = .ok l w ∧ l ≤ n := by
        cases lo' with
        | none =>
          cases lo with
          | none => simp [optNat] at hl; subst hl; exact ⟨rfl, Nat.zero_le _⟩
          | some q => cases q <;> simp [OptRel] at h1
        | some q =>
          cases lo with
          | none => simp [OptRel] at h1
          | some q' =>
            cases q' with
            | none => simp [optNat] at hl
            | some av =>
              simp only [optNat] at hl
              obtain ⟨rfl, hle⟩ := natOf_ok (by simpa [OptRel] using h1) hl
              have : (0 : Int) ≤ l ∧ (l : Int) ≤ n := by omega
              exact ⟨by simp [Instr.sliceBound, asIntOf, this], hle⟩
      obtain ⟨el1, el2⟩ := el
      have hsz : ∀ (i : Nat) (h : i < es.length), es[i].length = te.size := fun i h => by
        have := List.all_eq_true.1 hall _ (List.getElem_mem h)
        simpa using this
      have run : (Instr.sliceAt t (.slice A es.length cap) lo' hi' mx').run cx.P w = .ok (.slice (if M = l then A else A.map (·.add (l * te.size))) (n - l) (M - l)) w := by
        simp only [Instr.sliceAt, Sem.run_bind, run_underlying hu, Result.andThen_ok, Instr.slice, Instr.sliceBounds]
        clear h1 h2 h3 hm hn hl em2 em3 em6 em7 hmh
        cases mx' <;> cases hi' <;> cases lo' <;> simp only [Sem.run_pure, Result.ok.injEq, and_true, Option.isSome_none, Option.isSome_some, Bool.false_eq_true, if_false, if_true, run_stuck, reduceCtorEq] at em1 eh1 el1 <;> (try cases em1) <;> (try cases eh1) <;> (try cases el1) <;>
          simp [*, run_sizeOf hie]
      have hlen : ((es.drop l).take (n - l)).length = n - l := by simp; omega
      have main : VR G w (.sl ((es.drop l).take (n - l)) (if mx.isSome && m == n then .full else .dead)) (.slice (if M = l then A else A.map (·.add (l * te.size))) ((es.drop l).take (n - l)).length (M - l)) := by
        refine .sl (sz := te.size) (fun i j => u (l + i) j) (by omega) (fun i h => ?_) (fun i j hi hj => ?_) (fun i h j hj => ?_) ?_
        · simp only [List.getElem_take, List.getElem_drop]; exact hsz _ _
        · rw [hlen] at hi
          have hne : ¬ M = l := by omega
          have hszz : sz = te.size := by rw [← hzz (l + i) (by omega)]; exact hsz _ _
          obtain ⟨a, rfl, hc⟩ := ha (l + i) j (by omega) (by omega)
          rw [if_neg hne]
          refine ⟨a.add (l * te.size), rfl, ?_⟩
          rw [add_add _ _ _ (.inr trivial)]
          rw [hszz, Nat.add_mul, Nat.add_assoc] at hc
          exact hc
        · simp only [List.getElem_take, List.getElem_drop] at hj ⊢
          exact hr _ _ _ _
        · by_cases hf : (mx.isSome && m == n) = true
          · rw [if_pos hf]
            simp only [Bool.and_eq_true, beq_iff_eq] at hf
            rw [← em7] at hf
            obtain ⟨q, hq⟩ := Option.isSome_iff_exists.1 hf.1
            have := em3 q hq
            simp only [OwnOk]; omega
          · rw [if_neg hf]; trivial
      rw [hlen] at main
      exact ⟨_, run, main⟩
  · cases h

theorem intOf_ok {G : Gh} {w : World} {v : AV} {x : Value} {n : Int} (h : VR G w v x) (hn : intOf v = some n) : x = .int .i64 n := by
  unfold intOf at hn
  split at hn
  · cases hn; cases h; rfl
  · cases hn

theorem rp_drop {G : Gh} {w : World} {cs : List AV} {a : Addr} (h : VR G w (.rp cs) (.pointer (some a))) (k : Nat) : VR G w (.rp (cs.drop k)) (.pointer (some (a.add k))) := by
  cases h with
  | rp u ha hr =>
    refine .rp (fun j => u (k + j)) (fun j hj => ?_) (fun j hj => ?_)
    · rw [add_add _ _ _ (.inr trivial)]
      exact ha (k + j) (by simp at hj; omega)
    · simp only [List.getElem_drop]; exact hr _ _

theorem loc_add {G : Gh} {w : World} {b off : Nat} {a : Addr} (h : VR G w (.loc b off) (.pointer (some a))) (k : Nat) : VR G w (.loc b (off + k)) (.pointer (some (a.add k))) := by
  cases h with
  | loc hl hv =>
    refine .loc hl (fun blk e => ?_)
    rw [hv blk e]
    unfold Addr.add; split <;> simp_all

theorem indexAddrT_ok {cx : Cx} (ok : CxOk cx) {G : Gh} {w : World} {t : Nat} {v i r : AV} {x y : Value} (hv : VR G w v x) (hi : VR G w i y) (h : indexAddrT cx t v i = some r) :
    ∃ u, (Instr.indexAt t x y).run cx.P w = .ok u w ∧ VR G w r u := by
  unfold indexAddrT at h
  obtain ⟨ti, ht, h⟩ := Option.bind_eq_some_iff.1 h
  obtain ⟨_, z, hi0, hs, _, hz, hc, hzs, hk⟩ := ok.ty t ti ht
  split at h
  · rename_i e he
    unfold KindOk at hk
    rw [he] at hk
    obtain ⟨hu, _⟩ := hk
    simp only [Option.bind_eq_some_iff] at h
    obtain ⟨te, hte, n, hn, h⟩ := h
    obtain ⟨ie, _, hie, hse, _, _, _, _, _⟩ := ok.ty e te hte
    obtain rfl := intOf_ok hi hn
    by_cases h0 : 0 ≤ n
    · rw [if_pos h0] at h
      cases v with
      | sl es o =>
        obtain ⟨c, hcg, h⟩ := Option.bind_eq_some_iff.1 h
        obtain ⟨hlt, rfl⟩ := List.getElem?_eq_some_iff.1 hcg
        by_cases hl : es[n.toNat].length = te.size ∧ 0 < te.size
        · rw [if_pos hl] at h
          cases h
          cases hv with
          | @sl _ _ A cap sz u hcap hzz ha hr ho =>
            have hsz : sz = te.size := by rw [← hzz _ hlt]; exact hl.1
            have hin : 0 ≤ n ∧ n < (es.length : Int) := by omega
            obtain ⟨a, rfl, _⟩ := ha n.toNat 0 hlt (by omega)
            refine ⟨.pointer (some (a.add (n.toNat * te.size))), ?_, ?_⟩
            · simp [Instr.indexAt, run_underlying hu, asIntOf, hin, run_sizeOf hie, hse]
            · refine .rp (fun j => u n.toNat j) (fun j hj => ?_) (fun j hj => hr _ _ _ _)
              obtain ⟨a', e', hcell⟩ := ha n.toNat j hlt (by omega)
              cases e'
              rw [add_add _ _ _ (.inr trivial), ← hsz]
              exact hcell
        · rw [if_neg hl] at h; cases h
      | row b len =>
        by_cases hl : n.toNat < len
        · simp only [hl, if_true, Option.some.injEq] at h
          subst h
          cases hv with
          | @row _ _ a o hl' hv' =>
            have hin : 0 ≤ n ∧ n < (len : Int) := by omega
            refine ⟨.pointer (some (a.add (n.toNat * te.size))), ?_, ?_⟩
            · simp [Instr.indexAt, run_underlying hu, asIntOf, hin, run_sizeOf hie, hse]
            · refine .loc hl' (fun blk e => ?_)
              rw [hv' blk e, add_at]
        · simp only [hl, if_false] at h; cases h
      | _ => cases h
    · rw [if_neg h0] at h; cases h
  · rename_i len e he
    unfold KindOk at hk
    rw [he] at hk
    obtain ⟨hu, _⟩ := hk
    simp only [Option.bind_eq_some_iff] at h
    obtain ⟨te, hte, n, hn, h⟩ := h
    obtain ⟨ie, _, hie, hse, _, _, _, _, _⟩ := ok.ty e te hte
    obtain rfl := intOf_ok hi hn
    by_cases h0 : 0 ≤ n ∧ n < (len : Int)
    · rw [if_pos h0] at h
      cases v with
      | loc b off =>
        cases h
        cases hv with
        | @loc _ _ a o hl hv' =>
          refine ⟨.pointer (some (a.add (n.toNat * te.size))), ?_, loc_add (.loc hl hv') _⟩
          simp [Instr.indexAt, run_underlying hu, asIntOf, Instr.sureAddr, h0, run_sizeOf hie, hse]
      | rp cs =>
        cases h
        have hv0 := hv
        cases hv with
        | @rp _ a u ha hr =>
          refine ⟨.pointer (some (a.add (n.toNat * te.size))), ?_, rp_drop hv0 _⟩
          simp [Instr.indexAt, run_underlying hu, asIntOf, Instr.sureAddr, h0, run_sizeOf hie, hse]
      | _ => cases h
    · rw [if_neg h0] at h; cases h
  · cases h

theorem fieldAddrT_ok {cx : Cx} (ok : CxOk cx) {G : Gh} {w : World} {t f : Nat} {v r : AV} {x : Value} (hv : VR G w v x) (h : fieldAddrT cx t v f = some r) :
    ∃ u, (Instr.fieldAt t x f).run cx.P w = .ok u w ∧ VR G w r u := by
  unfold fieldAddrT at h
  simp only [Option.bind_eq_some_iff] at h
  obtain ⟨ti, ht, ⟨off, tf⟩, hf, h⟩ := h
  obtain ⟨_, z, hi0, hs, _, hz, hc, hzs, hk⟩ := ok.ty t ti ht
  obtain ⟨fields, places, fl, i', z', hu, _, hfl, rfl, _, _, hi', hs', _⟩ := fieldOf_ok ok hk hf
  by_cases h0 : tf.size = 0
  · simp only [h0, if_true] at h; cases h
  · simp only [h0, if_false] at h
    have hfl' : fields[f]? = some fl := by simpa using hfl
    have hne : ¬ i'.size = 0 := by omega
    cases v with
    | loc b off =>
      cases h
      cases hv with
      | @loc _ _ a o hl hv' =>
        refine ⟨.pointer (some (a.add fl.offset)), ?_, loc_add (.loc hl hv') _⟩
        simp [Instr.fieldAt, run_underlying hu, hfl', Instr.sureAddr, fieldPlace, run_sizeOf hi', hne]
    | rp cs =>
      cases h
      have hv0 := hv
      cases hv with
      | @rp _ a u ha hr =>
        refine ⟨.pointer (some (a.add fl.offset)), ?_, rp_drop hv0 _⟩
        simp [Instr.fieldAt, run_underlying hu, hfl', Instr.sureAddr, fieldPlace, run_sizeOf hi', hne]
    | _ => cases h

/-- A part of a value taken out. -/
theorem part_ok {cx : Cx} {G : Gh} {w : World} {t : Nat} {ti : TI} {i : TypeInfo} {z : Value} {cs : List AV} {us : Array Value} {off : Nat} {v : AV} (hi : cx.P.info? t = some i) (hs : i.size = ti.size) (hk : KindOk cx.P t ti z)
    (hr : VRs G w cs us.toList) (h1 : ∀ u ∈ us.toList, u.oneCell' = true) (hl : off + ti.size ≤ cs.length) (h : mk ti ((cs.drop off).take ti.size) = some v) : ∃ u, (part t us off).run cx.P w = .ok u w ∧ VR G w v u := by
  have hlen : cs.length = us.size := by have := hr.1; simpa using this
  unfold part
  rw [Sem.run_bind, kind_agg hk]
  simp only [Result.andThen_ok]
  unfold mk at h
  by_cases hg : ti.isAgg = true
  · rw [if_pos hg] at h ⊢
    cases h
    refine ⟨.agg (us.extract off (off + ti.size)), by simp [run_sizeOf hi, hs], ?_⟩
    have e : (us.extract off (off + ti.size)).toList = (us.toList.drop off).take ti.size := by simp [List.extract_eq_take_drop]
    refine .agg_of (by rw [e]; exact (hr.drop off).take _) (fun u hu => ?_)
    rw [e] at hu
    exact h1 u (List.mem_of_mem_drop (List.mem_of_mem_take hu))
  · have hg' : ti.isAgg = false := by simpa using hg
    rw [if_neg hg] at h ⊢
    obtain ⟨h1s, _⟩ := kind_one hk hg'
    rw [h1s] at h
    have hlt : off < cs.length := by omega
    have : ((cs.drop off).take 1).head? = cs[off]? := by
      rw [List.head?_take]; simp
    rw [this] at h
    obtain ⟨u, hu, hv⟩ := hr.get h
    refine ⟨u, ?_, hv⟩
    have : us[off]? = some u := by simpa using hu
    simp [this]

theorem fieldT_ok {cx : Cx} (ok : CxOk cx) {G : Gh} {w : World} {t f : Nat} {v r : AV} {x : Value} (hv : VR G w v x) (h : fieldT cx t v f = some r) :
    ∃ u, (Instr.field t x f).run cx.P w = .ok u w ∧ VR G w r u := by
  unfold fieldT at h
  simp only [Option.bind_eq_some_iff] at h
  obtain ⟨ti, ht, ⟨off, tf⟩, hf, h⟩ := h
  obtain ⟨_, z, hi0, hs, _, hz, hc, hzs, hk⟩ := ok.ty t ti ht
  obtain ⟨fields, places, fl, i', z', hu, _, hfl, rfl, htf, _, hi', hs', hk'⟩ := fieldOf_ok ok hk hf
  have hfl' : fields[f]? = some fl := by simpa using hfl
  cases v with
  | agg cs =>
    by_cases hl : fl.offset + tf.size ≤ cs.length
    · simp only [hl, if_true] at h
      cases hv with
      | @agg _ vs hl' h1 hr =>
        obtain ⟨u, e1, e2⟩ := part_ok (us := vs.toArray) hi' hs' hk' (by have q : VRs G w cs vs := ⟨hl', hr⟩; simpa using q) (fun u hu => by
          obtain ⟨i, hi⟩ := List.getElem?_of_mem (by simpa using hu : u ∈ vs)
          obtain ⟨hi1, rfl⟩ := List.getElem?_eq_some_iff.1 hi
          exact h1 i (by omega) hi1) hl h
        refine ⟨u, ?_, e2⟩
        simp [Instr.field, run_underlying hu, hfl', asAgg, e1]
    · simp only [hl, if_false] at h; cases h
  | _ => cases h

theorem isIface_false {cx : Cx} (ok : CxOk cx) {t : Nat} (h : isIface cx t = some false) : ∃ d, cx.P.underlying t = some d ∧ (match d with | .interface _ => false | _ => true) = true := by
  unfold isIface at h
  obtain ⟨ti, ht, h⟩ := Option.map_eq_some_iff.1 h
  obtain ⟨_, z, _, _, _, _, _, _, hk⟩ := ok.ty t ti ht
  unfold KindOk at hk
  cases hq : ti.kind <;> rw [hq] at hk h
  · obtain ⟨⟨d, h1, h2⟩, _⟩ := hk; exact ⟨d, h1, by cases d <;> simp_all⟩
  · obtain ⟨⟨e, h1⟩, _⟩ := hk; exact ⟨_, h1, rfl⟩
  · obtain ⟨⟨f, h1, _⟩, _⟩ := hk; exact ⟨_, h1, rfl⟩
  · exact ⟨_, hk.1, rfl⟩
  · exact ⟨_, hk.1, rfl⟩
  · simp at h

theorem zero_ok {cx : Cx} (ok : CxOk cx) (G : Gh) (w : World) {t : Nat} {ti : TI} {v : AV} (ht : cx.ty t = some ti) (hm : mk ti ti.zero = some v) : ∃ z, (zeroValue t).run cx.P w = .ok z w ∧ VR G w v z := by
  obtain ⟨i, z, hi, hs, _, hz, hc, hzs, hk⟩ := ok.ty t ti ht
  refine ⟨z, run_zeroValue hi hz w, ?_⟩
  obtain ⟨r1, r2⟩ := absCells_rel G w _ _ hc
  unfold mk at hm
  by_cases hg : ti.isAgg = true
  · rw [if_pos hg] at hm
    cases hm
    unfold KindOk at hk
    cases hq : ti.kind <;> rw [hq] at hk <;> simp only [TI.isAgg, hq, Bool.false_eq_true] at hg
    · obtain ⟨_, cs, rfl⟩ := hk; exact .agg_of r1 r2
    · obtain ⟨_, cs, rfl⟩ := hk; exact .agg_of r1 r2
  · have hg' : ti.isAgg = false := by simpa using hg
    rw [if_neg hg] at hm
    obtain ⟨_, h1⟩ := kind_one hk hg'
    have hcl : z.cells.toList = [z] := by cases z <;> simp_all [Value.oneCell', Value.cells]
    rw [hcl] at r1
    cases hz0 : ti.zero with
    | nil => rw [hz0] at hm; cases hm
    | cons c cs =>
      rw [hz0] at hm r1
      cases hm
      obtain ⟨u, vs, e, h2, _⟩ := r1.uncons
      cases e
      exact h2

theorem typeAssertT_ok {cx : Cx} (ok : CxOk cx) {G : Gh} {w : World} {xt a : Nat} {b : Bool} {v r : AV} {x : Value} (hv : VR G w v x) (h : typeAssertT cx v a b = some r) :
    ∃ u, (Instr.typeAssert x xt a b).run cx.P w = .ok u w ∧ VR G w r u := by
  have two : ∀ {p q : AV} {y z : Value}, VR G w p y → VR G w q z → VR G w (.tup [p, q]) (.tuple #[y, z]) := fun h1 h2 => .tup_of (vs := #[_, _]) (.cons h1 (.cons h2 (VRs.nil G w)))
  unfold typeAssertT at h
  cases hq : isIface cx a with
  | none => rw [hq] at h; cases h
  | some bb =>
    cases bb with
    | true => rw [hq] at h; cases v <;> cases h
    | false =>
      rw [hq] at h
      obtain ⟨d, hd, hd2⟩ := isIface_false ok hq
      have miss : ∀ {r : AV}, ((cx.ty a).bind fun ti => (mk ti ti.zero).map fun z => AV.tup [z, .bool false]) = some r → ∃ u, (zeroValue a).run cx.P w = .ok u w ∧ VR G w r (.tuple #[u, .bool false]) := by
        intro r hr
        obtain ⟨ti, ht, hr⟩ := Option.bind_eq_some_iff.1 hr
        obtain ⟨z, hz, rfl⟩ := Option.map_eq_some_iff.1 hr
        obtain ⟨u, h1, h2⟩ := zero_ok ok G w ht hz
        exact ⟨u, h1, two h2 .bool⟩
      cases v with
      | iface t v =>
        cases hv with
        | @iface _ _ u hr =>
          simp only at h
          by_cases hta : t = a
          · rw [if_pos hta] at h
            cases h
            subst hta
            cases b with
            | true => exact ⟨.tuple #[u, .bool true], by cases d <;> simp_all [Instr.typeAssert, run_underlying hd], by simpa using two hr .bool⟩
            | false => exact ⟨u, by cases d <;> simp_all [Instr.typeAssert, run_underlying hd], by simpa using hr⟩
          · rw [if_neg hta] at h
            cases b with
            | false => cases h
            | true =>
              obtain ⟨u', h1, h2⟩ := miss (by simpa using h)
              exact ⟨_, by cases d <;> simp_all [Instr.typeAssert, run_underlying hd] <;> rfl, h2⟩
      | nili =>
        cases hv
        simp only at h
        cases b with
        | false => cases h
        | true =>
          obtain ⟨u', h1, h2⟩ := miss (by simpa using h)
          exact ⟨_, by cases d <;> simp_all [Instr.typeAssert, run_underlying hd] <;> rfl, h2⟩
      | _ => cases h

end M
end Go.Proofs.YthclcchnodjjpaaGreatDoor
/- SOUNDNESS 5: append, make and the other built-in functions. -/
set_option linter.unusedVariables false
set_option linter.unusedSimpArgs false
namespace Go.Proofs.YthclcchnodjjpaaGreatDoor
namespace M

def newTok {α : Type} (T : List α) (i : Nat) (e : α) : List α := if i < T.length then T.set i e else T ++ [e]

theorem newTok_same {α : Type} {T : List α} {i : Nat} {e : α} (h : i ≤ T.length) : (newTok T i e)[i]? = some e := by
  unfold newTok
  split
  · simp [*]
  · have : i = T.length := by omega
    subst this
    simp

theorem newTok_other {α : Type} {T : List α} {i j : Nat} {e : α} (h : i ≤ T.length) (hj : j ≠ i) : (newTok T i e)[j]? = T[j]? := by
  unfold newTok
  split
  · rw [List.getElem?_set_ne (Ne.symm hj)]
  · have : i = T.length := by omega
    subst this
    rw [List.getElem?_append]
    split
    · rfl
    · rw [List.getElem?_eq_none (by simp; omega), List.getElem?_eq_none (by omega)]

theorem newTok_map {α β : Type} (f : α → β) (T : List α) (i : Nat) (e : α) : (newTok T i e).map f = newTok (T.map f) i (f e) := by
  unfold newTok
  simp only [List.length_map]
  split
  · simp [List.map_set]
  · simp

theorem mem_newTok {α : Type} {T : List α} {i : Nat} {e x : α} (h : i ≤ T.length) (hx : x ∈ newTok T i e) : x = e ∨ ∃ j, j ≠ i ∧ T[j]? = some x := by
  obtain ⟨j, hj⟩ := List.getElem?_of_mem hx
  by_cases hji : j = i
  · subst hji; rw [newTok_same h] at hj; exact .inl (Option.some.inj hj).symm
  · rw [newTok_other h hji] at hj; exact .inr ⟨j, hji, hj⟩

/-- A token comes, or goes on. -/
theorem sr_tok {G : Gh} {S : St} {w w' : World} (sr : SR G S w) {i v' b' k' : Nat} (hi : i ≤ G.tok.length) (hv : ∀ v b k, G.tok[i]? = some (v, b, k) → v < v')
    (hb : b' = w.heap.size ∨ ∃ v k, G.tok[i]? = some (v, b', k)) (hlt : b' < w'.heap.size) (hcell : ∀ (a : Addr) (u : Value), w.cell? a = some u → Stab G w a → w'.cell? a = some u)
    (hst : ∀ a, Stab G w a → a.block = b' → a.off < k') (os : w'.os = w.os) (tape : w'.tape = w.tape) (output : w'.output = w.output) (size : w.heap.size ≤ w'.heap.size)
    (hblk : ∀ j, j < w.heap.size → j ≠ b' → w'.heap[j]? = w.heap[j]?) :
    SR ⟨G.loc, newTok G.tok i (v', b', k'), G.out⟩ { S with tk := newTok S.tk i v' } w' ∧ Mv G w ⟨G.loc, newTok G.tok i (v', b', k'), G.out⟩ w' := by
  have other : ∀ (j v b k : Nat), j ≠ i → G.tok[j]? = some (v, b, k) → b ≠ b' := by
    intro j v b k hj ht e
    rcases hb with hb | ⟨v0, k0, hb⟩
    · have := sr.tlt _ (List.mem_of_getElem? ht); simp only at this; omega
    · subst e; exact hj (sr.tnd j i v b k v0 k0 ht hb)
  have nloc : some b' ∉ G.loc := by
    intro hm
    rcases hb with hb | ⟨v0, k0, hb⟩
    · have := sr.llt _ hm; omega
    · exact sr.dis _ (List.mem_of_getElem? hb) hm
  have blkk : ∀ b n, b < w.heap.size → b ≠ b' → Blk w b n → Blk w' b n := fun b n h1 h2 ⟨cs, t, h3, h4⟩ => ⟨cs, t, (hblk b h1 h2).trans h3, h4⟩
  have ge : Ge G w ⟨G.loc, newTok G.tok i (v', b', k'), G.out⟩ w' := {
    cell := fun a u hc s => by
      refine ⟨hcell a u hc s, Nat.lt_of_lt_of_le s.1 size, s.2.1, fun e he hbe => ?_, s.2.2.2⟩
      rcases mem_newTok hi he with rfl | ⟨j, hj, ht⟩
      · exact hst a s hbe.symm
      · exact s.2.2.1 e (List.mem_of_getElem? ht) hbe
    loc := fun j o l => .inl l
    tok := fun j v b k ht => by
      by_cases hji : j = i
      · subst hji
        exact ⟨v', b', k', newTok_same hi, Nat.le_of_lt (hv v b k ht), fun e => by have := hv v b k ht; omega⟩
      · exact ⟨v, b, k, (newTok_other hi hji).trans ht, Nat.le_refl v, fun _ => ⟨rfl, rfl, fun n hbn => blkk b n (sr.tlt _ (List.mem_of_getElem? ht)) (other j v b k hji ht) hbn⟩⟩
    out := rfl }
  refine ⟨⟨sr.len, fun j cs hj hne => ?_, sr.nd, ?_, fun j1 j2 v1 b k1 v2 k2 h1 h2 => ?_, fun e he hm => ?_, fun e he => ?_, fun b hm => Nat.lt_of_lt_of_le (sr.llt b hm) size, fun e he => ⟨Nat.lt_of_lt_of_le (sr.od e he).1 size, (sr.od e he).2.1, fun e' he' => ?_⟩, fun e he => (sr.gl e he).mono ge⟩,
    ⟨ge, os, tape, output, size, fun j hj hl ht => ?_, fun _ h => .inl h, fun e he => ?_⟩⟩
  · obtain ⟨b, vs, t, h1, h2, h3, h4⟩ := sr.blk j cs hj hne
    have hbb : b ≠ b' := fun e => nloc (e ▸ List.mem_of_getElem? h1)
    exact ⟨b, vs, t, h1, (hblk b (heap_lt h2) hbb).trans h2, h3.mono ge, h4⟩
  · simp only [newTok_map, sr.tk]
  · by_cases e1 : j1 = i <;> by_cases e2 : j2 = i
    · omega
    · subst e1
      rw [newTok_same hi] at h1
      rw [newTok_other hi e2] at h2
      cases h1
      exact absurd rfl (other j2 v2 _ k2 e2 h2)
    · subst e2
      rw [newTok_same hi] at h2
      rw [newTok_other hi e1] at h1
      cases h2
      exact absurd rfl (other j1 v1 _ k1 e1 h1)
    · rw [newTok_other hi e1] at h1
      rw [newTok_other hi e2] at h2
      exact sr.tnd j1 j2 v1 b k1 v2 k2 h1 h2
  · rcases mem_newTok hi he with rfl | ⟨j, hj, ht⟩
    · exact nloc hm
    · exact sr.dis e (List.mem_of_getElem? ht) hm
  · rcases mem_newTok hi he with rfl | ⟨j, hj, ht⟩
    · exact hlt
    · exact Nat.lt_of_lt_of_le (sr.tlt e (List.mem_of_getElem? ht)) size
  · rcases mem_newTok hi he' with rfl | ⟨j, hj, ht⟩
    · rcases hb with hb | ⟨v0, k0, hb⟩
      · have := (sr.od e he).1; simp only; omega
      · exact (sr.od e he).2.2 (v0, b', k0) (List.mem_of_getElem? hb)
    · exact (sr.od e he).2.2 _ (List.mem_of_getElem? ht)
  · refine hblk j hj (fun e => ?_)
    rcases hb with hb | ⟨v0, k0, hb⟩
    · omega
    · exact ht _ (List.mem_of_getElem? hb) e.symm
  · rcases mem_newTok hi he with rfl | ⟨j, hj, ht⟩
    · rcases hb with hb | ⟨v0, k0, hb⟩
      · exact .inr (by simp only; omega)
      · exact .inl ⟨_, List.mem_of_getElem? hb, rfl⟩
    · exact .inl ⟨e, List.mem_of_getElem? ht, rfl⟩

/-- The cells of a slice. -/
theorem sl_cells {G : Gh} {w : World} {es : List (List AV)} {o : Own} {x : Value} {sz : Nat} (h : VR G w (.sl es o) x) (hz : ∀ e ∈ es, e.length = sz) (hpos : 0 < sz) :
    ∃ A cap us, x = .slice A es.length cap ∧ es.length ≤ cap ∧ us.length = es.length * sz ∧ VRs G w es.flatten us ∧ (∀ (k : Nat) (v : Value), us[k]? = some v → ∃ a, A = some a ∧ Cell G w (a.add k) v) ∧ (es ≠ [] → OwnOk G w A es.length sz cap o) ∧ (o = .full → cap = es.length) := by
  cases h with
  | @sl _ _ A cap sz' u hc hzz ha hr ho =>
    refine ⟨A, cap, (List.range (es.length * sz)).map fun k => u (k / sz) (k % sz), rfl, hc, by simp, ?_, ?_, ?_, ?_⟩
    · have hfl := flatten_length es sz hz
      refine ⟨by simp [hfl], fun k h1 h2 => ?_⟩
      simp only [List.getElem_map, List.getElem_range]
      have hk : k < es.length * sz := by rw [← hfl]; exact h1
      have hm := Nat.mod_lt k hpos
      have hd : k / sz < es.length := Nat.div_lt_of_lt_mul (by rw [Nat.mul_comm]; exact hk)
      have hkk : k = (k / sz) * sz + k % sz := by rw [Nat.mul_comm]; exact (Nat.div_add_mod k sz).symm
      have e := flatten_get es sz hz (k / sz) (k % sz) hd hm
      rw [← hkk] at e
      have hl : k % sz < es[k / sz].length := by rw [hz _ (List.getElem_mem hd)]; exact hm
      rw [List.getElem?_eq_getElem h1, List.getElem?_eq_getElem hl] at e
      rw [Option.some.inj e]
      exact hr _ hd _ hl
    · intro k v hk
      simp only [List.getElem?_map, Option.map_eq_some_iff] at hk
      obtain ⟨k', hk', rfl⟩ := hk
      obtain ⟨h1, h2⟩ := List.getElem?_eq_some_iff.1 hk'
      simp at h1 h2
      subst h2
      have hm := Nat.mod_lt k hpos
      have hd : k / sz < es.length := Nat.div_lt_of_lt_mul (by rw [Nat.mul_comm]; exact h1)
      have hsz : sz' = sz := by rw [← hzz _ hd]; exact hz _ (List.getElem_mem hd)
      obtain ⟨a, e, c⟩ := ha (k / sz) (k % sz) hd (by omega)
      refine ⟨a, e, ?_⟩
      have hkk : (k / sz) * sz' + k % sz = k := by rw [hsz, Nat.mul_comm]; exact Nat.div_add_mod k sz
      rw [hkk] at c
      exact c
    · intro hne
      have h0 : 0 < es.length := by cases es <;> simp_all
      have hsz : sz' = sz := by rw [← hzz _ h0]; exact hz _ (List.getElem_mem h0)
      rw [← hsz]; exact ho
    · intro e; subst e; exact ho

theorem run_room {P : Program} (w : World) (t ty e : TypeId) (i : TypeInfo) (ht : P.underlying t = some (.slice e)) (hi : P.info? e = some i)
    (g sLen sCap tag : Nat) (cur : Array Value) (hg : w.heap[g]? = some (.cells cur tag (0, 0)))
    (a : Addr) (m c : Nat) (news : List Value) (hl : news.length = m * i.size) (hnews : ∀ (j : Nat) (u : Value), news[j]? = some u → w.cell? (a.add j) = some u) (h1 : ∀ u ∈ news, u.oneCell' = true)
    (hroom : sLen + m ≤ sCap) (hfit : sLen * i.size + news.length ≤ cur.size) :
    (Builtin.append_ #[t, t] ty #[.slice (some ⟨g, 0, none⟩) sLen sCap, .slice (some a) m c]).run P w =
      .ok (.slice (some ⟨g, 0, none⟩) (sLen + m) sCap) (w.setRow g (cur.toList.take (sLen * i.size) ++ news ++ cur.toList.drop (sLen * i.size + news.length)).toArray) := by
  have hf := run_firstCells_some (P := P) w i.size m a m c news hl hnews
  have hst := run_storeCells_at P g (sLen * i.size) tag news 0 cur w hg (by simpa using hfit) h1
  simp only [Nat.add_zero] at hst
  simp [Builtin.append_, run_underlying ht, sizeOf, typeInfo, hi, Builtin.lenOf, hroom, hf, Addr.add_lit, hst]

theorem run_append_none {P : Program} (w : World) (t ty e : TypeId) (i : TypeInfo) (ht : P.underlying t = some (.slice e)) (hi : P.info? e = some i) (A B : Option Addr) (n cap c : Nat) (hc : n ≤ cap) :
    (Builtin.append_ #[t, t] ty #[.slice A n cap, .slice B 0 c]).run P w = .ok (.slice A n cap) w := by
  cases A <;> cases B <;> simp [Builtin.append_, run_underlying ht, sizeOf, typeInfo, hi, Builtin.lenOf, hc, Builtin.firstCells, loadCells, loadCellsFrom, storeCells]

/-- What an append leaves where its row moved to a new block. -/
theorem grown_ok {G : Gh} {S : St} {w : World} (sr : SR G S w) {i v' sz cap : Nat} {e : TypeId} {es : List (List AV)} {us : List Value} {zs : Array Value} (hi : i ≤ G.tok.length) (hv : ∀ v b k, G.tok[i]? = some (v, b, k) → v < v')
    (hz : ∀ e ∈ es, e.length = sz) (hr : VRs G w es.flatten us) (h1 : ∀ u ∈ us, u.oneCell' = true) (hc : es.length ≤ cap) (hzs : zs.size = (cap - es.length) * sz) :
    let w' := w.drew.alloc (.cells (us.toArray ++ zs) e)
    let G' : Gh := ⟨G.loc, newTok G.tok i (v', w.heap.size, es.length * sz), G.out⟩
    SR G' { S with tk := newTok S.tk i v' } w' ∧ Mv G w G' w' ∧ VR G' w' (.sl es (.tok i v')) (.slice (some ⟨w.heap.size, 0, none⟩) es.length cap) := by
  intro w' G'
  have hul : us.length = es.length * sz := by rw [← hr.1, flatten_length es sz hz]
  have old : Old w w' := (Old.drew w).trans (Old.alloc _ _)
  have hnew : w'.heap[w.heap.size]? = some (.cells (us.toArray ++ zs) e (0, 0)) := heap_alloc_new w.drew _
  obtain ⟨h2, h3⟩ := sr_tok (w' := w') (k' := es.length * sz) sr hi hv (.inl rfl) (heap_lt hnew) (fun a u hc _ => old.cell hc) (fun a s e => by have := s.1; omega) rfl rfl rfl old.size (fun j hj _ => old.blk j hj)
  refine ⟨h2, h3, ?_⟩
  refine sl_of_cells hz hc (hr.mono h3.ge) (fun k hk => ⟨_, rfl, ?_⟩) ?_
  · rw [add_at]
    have hk' : k < us.length := by omega
    have hg : us.getD k Go.undef = us[k] := by simp [List.getD, List.getElem?_eq_getElem hk']
    rw [hg]
    refine ⟨?_, ⟨heap_lt hnew, fun hm => ?_, fun e he hb => ?_, fun e he hb => ?_⟩, h1 _ (List.getElem_mem hk')⟩
    · rw [cell_of_row _ _ _ _ _ _ hnew]
      simp [Array.getElem?_append, hk']
    · have := sr.llt _ hm; simp at this
    · rcases mem_newTok hi he with rfl | ⟨j, hj, ht⟩
      · exact hk
      · have := sr.tlt _ (List.mem_of_getElem? ht); simp only at hb; omega
    · have := (sr.od e he).1; simp only at hb; omega
  · refine ⟨v', w.heap.size, es.length * sz, newTok_same hi, Nat.le_refl _, fun _ => ⟨rfl, rfl, _, _, hnew, ?_⟩⟩
    simp only [Array.size_append, List.size_toArray, hul, hzs, ← Nat.add_mul]
    congr 1; omega

theorem appendT_ok {cx : Cx} (ok : CxOk cx) {G : Gh} {w : World} {S S' : St} (sr : SR G S w) {t ty : Nat} {s x v : AV} {p q : Value} (hs : VR G w s p) (hx : VR G w x q) (h : appendT cx S t s x = some (v, S')) :
    ∃ u w' G', (Builtin.append_ #[t, t] ty #[p, q]).run cx.P w = .ok u w' ∧ VR G' w' v u ∧ SR G' S' w' ∧ Mv G w G' w' := by
  unfold appendT at h
  obtain ⟨ti, ht, h⟩ := Option.bind_eq_some_iff.1 h
  obtain ⟨_, z0, _, _, _, _, _, _, hk⟩ := ok.ty t ti ht
  split at h
  · rename_i e he
    unfold KindOk at hk
    rw [he] at hk
    obtain ⟨hu, _⟩ := hk
    obtain ⟨te, hte, h⟩ := Option.bind_eq_some_iff.1 h
    obtain ⟨es, o, rfl⟩ : ∃ es o, s = .sl es o := by cases s <;> first | exact ⟨_, _, rfl⟩ | cases h
    obtain ⟨xs, o2, rfl⟩ : ∃ xs o2, x = .sl xs o2 := by cases x <;> first | exact ⟨_, _, rfl⟩ | cases h
    replace h : appendE te S es o xs = some (v, S') := h
    unfold appendE at h
    obtain ⟨ie, z, hie, hse, hby, hze, hce, hzse, hke⟩ := ok.ty e te hte
    by_cases hxs : xs = []
    · rw [if_pos hxs] at h
      cases h
      subst hxs
      have hs0 := hs
      cases hs with
      | @sl _ _ A cap sz u hcap hzz ha hr ho =>
        cases hx with
        | @sl _ _ B c sz2 u2 hc2 hzz2 ha2 hr2 ho2 =>
          exact ⟨_, w, G, run_append_none w t ty e ie hu hie A B es.length cap c hcap, hs0, sr, Mv.refl G w⟩
    · rw [if_neg hxs] at h
      by_cases hc : (es.length + xs.length) * te.bytes ≤ 70368744177664 ∧ 0 < te.bytes ∧ 0 < te.size ∧ (es ++ xs).all (fun c => c.length == te.size) = true
      · rw [if_pos hc] at h
        obtain ⟨hbound, hbpos, hspos, hall⟩ := hc
        have hz : ∀ c ∈ es ++ xs, c.length = te.size := fun c hc => by have := List.all_eq_true.1 hall c hc; simpa using this
        have hze1 : ∀ c ∈ es, c.length = te.size := fun c hc => hz c (by simp [hc])
        have hzx : ∀ c ∈ xs, c.length = te.size := fun c hc => hz c (by simp [hc])
        obtain ⟨A, cap, us, rfl, hcap, hul, hur, hcells, hown, hfull⟩ := sl_cells hs hze1 hspos
        obtain ⟨B, c2, news, rfl, _, hnl, hnr, hncells, _, _⟩ := sl_cells hx hzx hspos
        have hm : 0 < xs.length := by cases xs <;> simp_all
        have hlen : es.length + xs.length ≤ 70368744177664 := Nat.le_trans (Nat.le_mul_of_pos_right _ hbpos) hbound
        have hBsome : ∃ b, B = some b := by
          have : 0 < news.length := by rw [hnl]; exact Nat.mul_pos hm hspos
          obtain ⟨a, e, _⟩ := hncells 0 news[0] (List.getElem?_eq_getElem this)
          exact ⟨a, e⟩
        obtain ⟨b, rfl⟩ := hBsome
        have hnews : ∀ (j : Nat) (u : Value), news[j]? = some u → w.cell? (b.add j) = some u := fun j u hj => by
          obtain ⟨a, e, c⟩ := hncells j u hj
          cases e; exact c.1
        have hn1 : ∀ u ∈ news, u.oneCell' = true := fun u hu => by
          obtain ⟨j, hj⟩ := List.getElem?_of_mem hu
          obtain ⟨a, e, c⟩ := hncells j u hj
          exact c.2.2
        have hu1 : ∀ u ∈ us, u.oneCell' = true := fun u hu => by
          obtain ⟨j, hj⟩ := List.getElem?_of_mem hu
          obtain ⟨a, e, c⟩ := hcells j u hj
          exact c.2.2
        have hflat : VRs G w (es ++ xs).flatten (us ++ news) := by rw [List.flatten_append]; exact hur.append hnr
        have h1' : ∀ u ∈ us ++ news, u.oneCell' = true := fun u hu => (List.mem_append.1 hu).elim (hu1 u) (hn1 u)
        have hz0 : z.cells.size = ie.size := by omega
        -- the row moves
        have grow : ∀ (i v' : Nat), i ≤ G.tok.length → (∀ v b k, G.tok[i]? = some (v, b, k) → v < v') → cap < es.length + xs.length → (A = none → cap = 0) →
            ∃ u w' G', (Builtin.append_ #[t, t] ty #[.slice A es.length cap, .slice (some b) xs.length c2]).run cx.P w = .ok u w' ∧ VR G' w' (.sl (es ++ xs) (.tok i v')) u ∧ SR G' { S with tk := newTok S.tk i v' } w' ∧ Mv G w G' w' := by
          intro i v' hi hv hlt hA
          have hge := grownCap_ge w (es.length + xs.length) cap e
          have fit : (Builtin.zeroCells z.cells (grownCap w (es.length + xs.length) cap e - (es.length + xs.length))).size = (grownCap w (es.length + xs.length) cap e - (es ++ xs).length) * te.size := by
            rw [size_zeroCells, List.length_append]; rw [hz0, hse]
          have hgr := grown_ok sr (e := e) hi hv hz hflat h1' (cap := grownCap w (es.length + xs.length) cap e) (by rw [List.length_append]; exact hge) fit
          simp only [List.length_append] at hgr
          cases A with
          | none =>
            have h0 : es = [] := by
              cases es with
              | nil => rfl
              | cons x es' =>
                have : 0 < us.length := by rw [hul]; exact Nat.mul_pos (by simp) hspos
                obtain ⟨a, e, _⟩ := hcells 0 us[0] (List.getElem?_eq_getElem this)
                cases e
            subst h0
            have hus : us = [] := List.eq_nil_of_length_eq_zero (by simpa using hul)
            subst hus
            obtain rfl : cap = 0 := hA rfl
            have hr := run_append_nil (P := cx.P) w t ty e ie z hu hie hze b xs.length c2 news (by rw [hse]; exact hnl) hnews hm (by omega) (by rw [hby]; simp only [List.length_nil, Nat.zero_add] at hbound; omega)
            refine ⟨_, _, ⟨G.loc, newTok G.tok i (v', w.heap.size, xs.length * te.size), G.out⟩, hr, ?_, ?_, ?_⟩
            · simpa using hgr.2.2
            · simpa using hgr.1
            · simpa using hgr.2.1
          | some a =>
            have hr := run_append_grow (P := cx.P) w t ty e ie z hu hie hze a es.length cap us (by rw [hse]; exact hul) (fun j v hj => by obtain ⟨a', e', c⟩ := hcells j v hj; cases e'; exact c.1) b xs.length c2 news (by rw [hse]; exact hnl) hnews hlt (by omega)
              (growslice_fits hlt (by rw [hby]; omega))
            refine ⟨_, _, ⟨G.loc, newTok G.tok i (v', w.heap.size, (es.length + xs.length) * te.size), G.out⟩, hr, ?_, ?_, ?_⟩
            · simpa using hgr.2.2
            · simpa using hgr.1
            · simpa using hgr.2.1
        cases o with
        | dead => cases h
        | full =>
          cases h
          obtain rfl := hfull rfl
          have hl : S.tk.length = G.tok.length := by rw [sr.tk]; simp
          have h0 : ∀ v b k, G.tok[S.tk.length]? = some (v, b, k) → v < 0 := fun v b k hg => by rw [hl, List.getElem?_eq_none (Nat.le_refl _)] at hg; cases hg
          have := grow S.tk.length 0 (by omega) h0 (by omega) (fun hA => by
            subst hA
            cases es with
            | nil => rfl
            | cons x es' =>
              have : 0 < us.length := by rw [hul]; exact Nat.mul_pos (by simp) hspos
              obtain ⟨a, e, _⟩ := hcells 0 us[0] (List.getElem?_eq_getElem this)
              cases e)
          have e : newTok S.tk S.tk.length 0 = S.tk ++ [0] := by simp [newTok]
          rw [e] at this
          exact this
        | tok n ver =>
          by_cases hcnd : S.tk[n]? = some ver ∧ es.isEmpty = false
          · simp only [hcnd, and_self, if_true, Option.some.injEq, Prod.mk.injEq] at h
            obtain ⟨rfl, rfl⟩ := h
            have hne : es ≠ [] := by intro e; rw [e] at hcnd; simp at hcnd
            obtain ⟨v0, blk, k, htok, hle, hlive⟩ := hown hne
            have hver : v0 = ver := by
              have := hcnd.1
              rw [sr.tk, List.getElem?_map, htok] at this
              simpa using this
            subst hver
            obtain ⟨rfl, rfl, cur, tag, hheap, hcur⟩ := hlive rfl
            have hn : n < G.tok.length := (List.getElem?_eq_some_iff.1 htok).1
            have hv1 : ∀ v b k, G.tok[n]? = some (v, b, k) → v < v0 + 1 := fun v b k hg => by rw [htok] at hg; cases hg; omega
            have hset : S.tk.set n (v0 + 1) = newTok S.tk n (v0 + 1) := by
              have : n < S.tk.length := by rw [sr.tk]; simpa using hn
              simp [newTok, this]
            rw [hset]
            by_cases hroom : es.length + xs.length ≤ cap
            · have hfit : es.length * ie.size + news.length ≤ cur.size := by rw [hnl, hcur, hse, ← Nat.add_mul]; exact Nat.mul_le_mul_right _ hroom
              have hr := run_room w t ty e ie hu hie blk es.length cap tag cur hheap b xs.length c2 news (by rw [hse]; exact hnl) hnews hn1 hroom hfit
              rw [hse] at hr hfit
              have hw' : (w.setRow blk (cur.toList.take (es.length * te.size) ++ news ++ cur.toList.drop (es.length * te.size + news.length)).toArray).heap[blk]? = some (.cells (cur.toList.take (es.length * te.size) ++ news ++ cur.toList.drop (es.length * te.size + news.length)).toArray tag (0, 0)) := setRow_heap w blk cur _ tag _ hheap
              have htl : (cur.toList.take (es.length * te.size)).length = es.length * te.size := by simp; omega
              have hcell : ∀ (a : Addr) (u : Value), w.cell? a = some u → Stab G w a → (w.setRow blk (cur.toList.take (es.length * te.size) ++ news ++ cur.toList.drop (es.length * te.size + news.length)).toArray).cell? a = some u := by
                intro a u hc s
                by_cases hb : a.block = blk
                · have hoff := s.2.2.1 _ (List.mem_of_getElem? htok) hb.symm
                  simp only at hoff
                  simp only [World.cell?, hb, hw', hheap] at hc ⊢
                  split at hc
                  · cases hc
                  · rw [if_neg (by assumption)]
                    simp only [List.getElem?_toArray, List.append_assoc]
                    rw [List.getElem?_append_left (by omega), List.getElem?_take, if_pos hoff]
                    simpa using hc
                · exact (cell_setRow_other w blk _ a hb).trans hc
              obtain ⟨g1, g2⟩ := sr_tok (w' := w.setRow blk (cur.toList.take (es.length * te.size) ++ news ++ cur.toList.drop (es.length * te.size + news.length)).toArray) (k' := (es.length + xs.length) * te.size) sr (Nat.le_of_lt hn) hv1 (.inr ⟨v0, _, htok⟩)
                (heap_lt hw') hcell (fun a s hb => by
                  have := s.2.2.1 _ (List.mem_of_getElem? htok) hb.symm
                  simp only at this
                  rw [Nat.add_mul]; omega) rfl rfl rfl (by rw [size_setRow]; exact Nat.le_refl _) (fun j _ hj => setRow_other w blk j _ hj)
              refine ⟨_, _, _, hr, ?_, g1, g2⟩
              refine Eq.mp (congrArg (fun n => VR _ _ _ (.slice _ n _)) (List.length_append (as := es) (bs := xs))) ?_
              refine sl_of_cells hz (by rw [List.length_append]; exact hroom) (hflat.mono g2.ge) (fun k hk => ⟨_, rfl, ?_⟩) ?_
              · rw [add_at]
                have hull : (us ++ news).length = (es ++ xs).length * te.size := by rw [List.length_append, hul, hnl, List.length_append, Nat.add_mul]
                have hk' : k < (us ++ news).length := by omega
                have hkk : k < us.length + news.length := by simpa using hk'
                have hg : (us ++ news).getD k Go.undef = (us ++ news)[k] := by simp [List.getD, List.getElem?_eq_getElem hk']
                rw [hg]
                refine ⟨?_, ⟨heap_lt hw', fun hm => sr.dis _ (List.mem_of_getElem? htok) hm, fun e he hb => ?_, fun e he hb => absurd hb.symm ((sr.od e he).2.2 _ (List.mem_of_getElem? htok))⟩, h1' _ (List.getElem_mem hk')⟩
                · rw [cell_of_row _ _ _ _ _ _ hw']
                  simp only [List.getElem?_toArray, List.append_assoc]
                  by_cases hku : k < us.length
                  · rw [List.getElem?_append_left (by omega), List.getElem?_take, if_pos (by omega)]
                    rw [List.getElem_append_left hku]
                    have hc := hcells k us[k] (List.getElem?_eq_getElem hku)
                    obtain ⟨a, e, c⟩ := hc
                    cases e
                    rw [add_at] at c
                    have := c.1
                    rw [cell_of_row _ _ _ _ _ _ hheap] at this
                    simpa using this
                  · rw [List.getElem?_append_right (by omega), htl, List.getElem?_append_left (by omega)]
                    rw [List.getElem_append_right (by omega)]
                    rw [List.getElem?_eq_getElem (by omega)]
                    congr 2; omega
                · rcases mem_newTok (Nat.le_of_lt hn) he with rfl | ⟨j, hj, ht⟩
                  · rw [List.length_append] at hk; exact hk
                  · exact absurd (sr.tnd j n _ _ _ _ _ ht (by rw [show blk = _ from hb.symm] at htok; exact htok)) hj
              · refine ⟨v0 + 1, blk, _, newTok_same (Nat.le_of_lt hn), Nat.le_refl _, fun _ => ⟨rfl, by rw [List.length_append], _, _, hw', ?_⟩⟩
                simp only [List.size_toArray, List.length_append, htl, List.length_drop, Array.length_toList]
                omega
            · exact grow n (v0 + 1) (Nat.le_of_lt hn) hv1 (by omega) (fun e => by cases e)
          · simp only [hcnd, if_false] at h; cases h
      · rw [if_neg hc] at h; cases h
  · cases h

end M
end Go.Proofs.YthclcchnodjjpaaGreatDoor
