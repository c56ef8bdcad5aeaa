/- SOUNDNESS 4: the other operations that are no call of a function. -/
import Derived.Test.YtgkdehfbeejlfaaMc4
set_option linter.unusedVariables false
set_option linter.unusedSimpArgs false
namespace Go.Proofs.Ytgkdehfbeejlfaa
namespace M

/-- The machine's number or bool. -/
def conc : AV → Value
  | .int k n => .int k n
  | .bool b => .bool b
  | _ => Go.undef

theorem intOp_ok {P : Program} {w : World} {op : BinOp} {k : IntKind} {a b : Int} {t : TypeId} {v : AV} (h : intOp op k a b = some v) (G : Gh) (x y : Operand) :
    (do eqGuard op t x y (.int k a) (.int k b); binOp op t (.int k a) (.int k b) : Sem Value).run P w = .ok (conc v) w ∧ VR G w v (conc v) := by
  cases op <;> simp only [intOp, Option.some.injEq] at h <;> (try (cases h; done)) <;> (try (split at h)) <;> (try (cases h; done))
  all_goals cases h
  all_goals refine ⟨?_, ?_⟩
  all_goals first
    | exact .int
    | exact .bool
    | (simp [eqGuard_at_int, binOp, Op.intArith, Op.intDiv, Op.intCmp, conc, *]; done)

theorem isPtr_ok {cx : Cx} (ok : CxOk cx) {t : Nat} (h : isPtr cx t = true) : ∃ e, cx.P.underlying t = some (.pointer e) := by
  unfold isPtr at h
  split at h
  · rename_i ti ht
    obtain ⟨i, z, _, _, _, _, _, _, hk⟩ := ok.ty t ti ht
    split at h
    · rename_i he
      unfold KindOk at hk
      rw [he] at hk
      exact hk.1
    · cases h
  · cases h

theorem notNil_ok {G : Gh} {w : World} {v : AV} {x : Value} {b : Bool} (h : VR G w v x) (hb : v.notNil = some b) : ∃ a : Option Addr, x = .pointer a ∧ a.isSome = b := by
  cases h <;> simp only [AV.notNil, Option.some.injEq] at hb <;> (try (cases hb; done))
  · subst hb; exact ⟨_, rfl, rfl⟩
  · subst hb; exact ⟨_, rfl, rfl⟩
  · subst hb; exact ⟨none, rfl, rfl⟩

theorem binT_ok {cx : Cx} (ok : CxOk cx) {G : Gh} {w : World} {op : BinOp} {t : Nat} {p q v : AV} {a b : Value} (hp : VR G w p a) (hq : VR G w q b) (h : binT cx op t p q = some v) (x y : Operand) :
    ∃ u, (do eqGuard op t x y a b; binOp op t a b : Sem Value).run cx.P w = .ok u w ∧ VR G w v u := by
  have ptr : ∀ (c d : Option Addr) (r : Bool), (c = none ∨ d = none) → ((c.isNone && d.isNone) = r) → isPtr cx t = true → (op = .eql ∨ op = .neq) →
      ∃ u, (do eqGuard op t x y (.pointer c) (.pointer d); binOp op t (.pointer c) (.pointer d) : Sem Value).run cx.P w = .ok u w ∧ u = .bool (if op = .eql then r else !r) := by
    intro c d r hcd hr ht hop
    obtain ⟨e, he⟩ := isPtr_ok ok ht
    have key : (Op.equal t (.pointer c) (.pointer d)).run cx.P w = .ok r w := by
      unfold Op.equal Op.maxDepth
      unfold Op.equalIn
      rw [Sem.run_bind, run_underlying he]
      simp only [Result.andThen_ok]
      subst hr
      cases c <;> cases d <;> simp at hcd ⊢
    rcases hop with rfl | rfl
    · exact ⟨.bool r, by simp [eqGuard_at_pointer, binOp, key], by simp⟩
    · exact ⟨.bool !r, by simp [eqGuard_at_pointer, binOp, key], by simp⟩
  have fin : ∀ {z : AV} {c d : Option Addr}, (c = none ∨ d = none) → (∀ nn, z.notNil = some nn → (c.isNone && d.isNone) = !nn) → nilT cx op t z = some v →
      ∃ u, (do eqGuard op t x y (.pointer c) (.pointer d); binOp op t (.pointer c) (.pointer d) : Sem Value).run cx.P w = .ok u w ∧ VR G w v u := by
    intro z c d hcd hr hv
    unfold nilT at hv
    by_cases ht : isPtr cx t = true
    · rw [if_pos ht] at hv
      obtain ⟨nn, hnn, hv⟩ := Option.bind_eq_some_iff.1 hv
      cases op <;> simp only [Option.some.injEq] at hv <;> (try (cases hv; done))
      · obtain ⟨u, h1, rfl⟩ := ptr c d (!nn) hcd (hr nn hnn) ht (.inl rfl)
        exact ⟨_, h1, by subst hv; simpa using VR.bool⟩
      · obtain ⟨u, h1, rfl⟩ := ptr c d (!nn) hcd (hr nn hnn) ht (.inr rfl)
        exact ⟨_, h1, by subst hv; simpa using VR.bool⟩
    · rw [if_neg ht] at hv; cases hv
  unfold binT at h
  split at h
  · rename_i k m k' n
    by_cases hk : k = k'
    · rw [if_pos hk] at h
      subst hk
      cases hp; cases hq
      obtain ⟨h1, h2⟩ := intOp_ok (P := cx.P) (w := w) (t := t) h G x y
      exact ⟨_, h1, h2⟩
    · rw [if_neg hk] at h; cases h
  · cases hp
    have : ∃ nn, q.notNil = some nn := by
      unfold nilT at h
      split at h
      · obtain ⟨nn, hnn, _⟩ := Option.bind_eq_some_iff.1 h; exact ⟨nn, hnn⟩
      · cases h
    obtain ⟨nn, hnn⟩ := this
    obtain ⟨d, rfl, hd⟩ := notNil_ok hq hnn
    exact fin (.inl rfl) (fun mm hmm => by rw [hnn] at hmm; cases hmm; cases d <;> simp_all) h
  · cases hq; cases hp
    exact fin (.inr rfl) (fun mm hmm => by simp only [AV.notNil, Option.some.injEq] at hmm; subst hmm; rfl) h
  · cases hq; cases hp
    exact fin (.inr rfl) (fun mm hmm => by simp only [AV.notNil, Option.some.injEq] at hmm; subst hmm; rfl) h
  · cases h

/-! ### Addresses, slices of slices, fields -/
theorem natOf_some {v : AV} {most n : Nat} (hn : natOf v most = some n) : v = .int .i64 n ∧ n ≤ most := by
  unfold natOf at hn
  obtain ⟨m, hm, hn⟩ := Option.bind_eq_some_iff.1 hn
  by_cases hc : 0 ≤ m ∧ m ≤ (most : Int)
  · rw [if_pos hc] at hn
    cases hn
    unfold intOf at hm
    split at hm
    · cases hm
      refine ⟨?_, by omega⟩
      congr 1; omega
    · cases hm
  · rw [if_neg hc] at hn; cases hn

theorem natOf_ok {G : Gh} {w : World} {v : AV} {x : Value} {most n : Nat} (h : VR G w v x) (hn : natOf v most = some n) : x = .int .i64 n ∧ n ≤ most := by
  obtain ⟨rfl, h1⟩ := natOf_some hn
  cases h
  exact ⟨rfl, h1⟩

/-- An optional bound, as the machine has it. -/
def OptRel (G : Gh) (w : World) : Option (Option AV) → Option Value → Prop
  | none, none => True
  | some (some v), some x => VR G w v x
  | some none, some _ => True
  | _, _ => False

theorem sliceT_ok {cx : Cx} (ok : CxOk cx) {G : Gh} {w : World} {t : Nat} {v r : AV} {x : Value} {lo hi mx : Option (Option AV)} {lo' hi' mx' : Option Value} (hv : VR G w v x) (h1 : OptRel G w lo lo') (h2 : OptRel G w hi hi') (h3 : OptRel G w mx mx')
    (h : sliceT cx t v lo hi mx = some r) (hmh : mx.isSome = true → hi.isSome = true) : ∃ u, (Instr.sliceAt t x lo' hi' mx').run cx.P w = .ok u w ∧ VR G w r u := by
  unfold sliceT at h
  simp only [Option.bind_eq_some_iff] at h
  obtain ⟨ti, ht, h⟩ := h
  obtain ⟨i, z, hi0, hs, _, hz, hc, hzs, hk⟩ := ok.ty t ti ht
  split at h
  · rename_i e es o he
    unfold KindOk at hk
    rw [he] at hk
    obtain ⟨hu, _⟩ := hk
    simp only [Option.bind_eq_some_iff] at h
    obtain ⟨te, hte, m, hm, n, hn, l, hl, h⟩ := h
    have hall : es.all (fun c => c.length == te.size) = true := by
      cases hq : es.all (fun c => c.length == te.size) with
      | true => rfl
      | false => rw [if_pos hq] at h; cases h
    rw [if_neg (by rw [hall]; simp)] at h
    cases h
    obtain ⟨ie, _, hie, hse, _, _, _, _, _⟩ := ok.ty e te hte
    cases hv with
    | @sl _ _ A cap sz u hcap hzz ha hr ho =>
      have em : ∃ M : Nat, (match mx' with | some v => Instr.sliceBound v cap .slice3Acap | none => (pure cap : Sem Nat)).run cx.P w = .ok M w ∧ (mx' = none → M = cap) ∧ (∀ q, mx' = some q → M = m) ∧ m ≤ es.length ∧ m ≤ M ∧ (mx' = none → m = es.length) ∧ mx'.isSome = mx.isSome := by
        cases mx' with
        | none =>
          cases mx with
          | none => simp [optNat] at hm; subst hm; exact ⟨cap, rfl, fun _ => rfl, fun _ e => (by cases e), Nat.le_refl _, hcap, fun _ => rfl, rfl⟩
          | some q => cases q <;> simp [OptRel] at h3
        | some q =>
          cases mx with
          | none => simp [OptRel] at h3
          | some q' =>
            cases q' with
            | none => simp [optNat] at hm
            | some av =>
              simp only [optNat] at hm
              obtain ⟨rfl, hle⟩ := natOf_ok (by simpa [OptRel] using h3) hm
              refine ⟨m, ?_, fun e => (by cases e), fun _ _ => rfl, hle, Nat.le_refl _, fun e => (by cases e), rfl⟩
              have : (0 : Int) ≤ m ∧ (m : Int) ≤ cap := by omega
              simp [Instr.sliceBound, asIntOf, this]
      obtain ⟨M, em1, em2, em3, em4, em5, em6, em7⟩ := em
      have eh : (match hi', mx' with
          | some v, some _ => Instr.sliceBound v M .slice3B
          | some v, none => Instr.sliceBound v M .sliceAcap
          | none, none => (pure es.length : Sem Nat)
          | none, some _ => stuck "Slice: max without high").run cx.P w = .ok n w ∧ n ≤ m := by
        cases hi' with
        | none =>
          cases hi with
          | none =>
            have : mx' = none := by
              cases mx' with
              | none => rfl
              | some q => have := hmh (by rw [← em7]; rfl); simp at this
            subst this
            simp [optNat] at hn; subst hn
            exact ⟨rfl, by rw [em6 rfl]; exact Nat.le_refl _⟩
          | some q => cases q <;> simp [OptRel] at h2
        | some q =>
          cases hi with
          | none => simp [OptRel] at h2
          | some q' =>
            cases q' with
            | none => simp [optNat] at hn
            | some av =>
              simp only [optNat] at hn
              obtain ⟨rfl, hle⟩ := natOf_ok (by simpa [OptRel] using h2) hn
              have : (0 : Int) ≤ n ∧ (n : Int) ≤ M := by omega
              cases mx' <;> exact ⟨by simp [Instr.sliceBound, asIntOf, this], hle⟩
      obtain ⟨eh1, eh2⟩ := eh
      have el : (match lo' with
          | some v => Instr.sliceBound v n (if mx'.isSome then .slice3C else .sliceB)
          | none => (pure 0 : Sem Nat)).run cx.P w = .ok l w ∧ l ≤ n := by
        cases lo' with
        | none =>
          cases lo with
          | none => simp [optNat] at hl; subst hl; exact ⟨rfl, Nat.zero_le _⟩
          | some q => cases q <;> simp [OptRel] at h1
        | some q =>
          cases lo with
          | none => simp [OptRel] at h1
          | some q' =>
            cases q' with
            | none => simp [optNat] at hl
            | some av =>
              simp only [optNat] at hl
              obtain ⟨rfl, hle⟩ := natOf_ok (by simpa [OptRel] using h1) hl
              have : (0 : Int) ≤ l ∧ (l : Int) ≤ n := by omega
              exact ⟨by simp [Instr.sliceBound, asIntOf, this], hle⟩
      obtain ⟨el1, el2⟩ := el
      have hsz : ∀ (i : Nat) (h : i < es.length), es[i].length = te.size := fun i h => by
        have := List.all_eq_true.1 hall _ (List.getElem_mem h)
        simpa using this
      have run : (Instr.sliceAt t (.slice A es.length cap) lo' hi' mx').run cx.P w = .ok (.slice (if M = l then A else A.map (·.add (l * te.size))) (n - l) (M - l)) w := by
        simp only [Instr.sliceAt, Sem.run_bind, run_underlying hu, Result.andThen_ok, Instr.slice, Instr.sliceBounds]
        clear h1 h2 h3 hm hn hl em2 em3 em6 em7 hmh
        cases mx' <;> cases hi' <;> cases lo' <;> simp only [Sem.run_pure, Result.ok.injEq, and_true, Option.isSome_none, Option.isSome_some, Bool.false_eq_true, if_false, if_true, run_stuck, reduceCtorEq] at em1 eh1 el1 <;> (try cases em1) <;> (try cases eh1) <;> (try cases el1) <;>
          simp [*, run_sizeOf hie]
      have hlen : ((es.drop l).take (n - l)).length = n - l := by simp; omega
      have main : VR G w (.sl ((es.drop l).take (n - l)) (if mx.isSome && m == n then .full else .dead)) (.slice (if M = l then A else A.map (·.add (l * te.size))) ((es.drop l).take (n - l)).length (M - l)) := by
        refine .sl (sz := te.size) (fun i j => u (l + i) j) (by omega) (fun i h => ?_) (fun i j hi hj => ?_) (fun i h j hj => ?_) ?_
        · simp only [List.getElem_take, List.getElem_drop]; exact hsz _ _
        · rw [hlen] at hi
          have hne : ¬ M = l := by omega
          have hszz : sz = te.size := by rw [← hzz (l + i) (by omega)]; exact hsz _ _
          obtain ⟨a, rfl, hc⟩ := ha (l + i) j (by omega) (by omega)
          rw [if_neg hne]
          refine ⟨a.add (l * te.size), rfl, ?_⟩
          rw [add_add _ _ _ (.inr trivial)]
          rw [hszz, Nat.add_mul, Nat.add_assoc] at hc
          exact hc
        · simp only [List.getElem_take, List.getElem_drop] at hj ⊢
          exact hr _ _ _ _
        · by_cases hf : (mx.isSome && m == n) = true
          · rw [if_pos hf]
            simp only [Bool.and_eq_true, beq_iff_eq] at hf
            rw [← em7] at hf
            obtain ⟨q, hq⟩ := Option.isSome_iff_exists.1 hf.1
            have := em3 q hq
            simp only [OwnOk]; omega
          · rw [if_neg hf]; trivial
      rw [hlen] at main
      exact ⟨_, run, main⟩
  · cases h

theorem intOf_ok {G : Gh} {w : World} {v : AV} {x : Value} {n : Int} (h : VR G w v x) (hn : intOf v = some n) : x = .int .i64 n := by
  unfold intOf at hn
  split at hn
  · cases hn; cases h; rfl
  · cases hn

theorem rp_drop {G : Gh} {w : World} {cs : List AV} {a : Addr} (h : VR G w (.rp cs) (.pointer (some a))) (k : Nat) : VR G w (.rp (cs.drop k)) (.pointer (some (a.add k))) := by
  cases h with
  | rp u ha hr =>
    refine .rp (fun j => u (k + j)) (fun j hj => ?_) (fun j hj => ?_)
    · rw [add_add _ _ _ (.inr trivial)]
      exact ha (k + j) (by simp at hj; omega)
    · simp only [List.getElem_drop]; exact hr _ _

theorem loc_add {G : Gh} {w : World} {b off : Nat} {a : Addr} (h : VR G w (.loc b off) (.pointer (some a))) (k : Nat) : VR G w (.loc b (off + k)) (.pointer (some (a.add k))) := by
  cases h with
  | loc hl hv =>
    refine .loc hl (fun blk e => ?_)
    rw [hv blk e]
    unfold Addr.add; split <;> simp_all

theorem indexAddrT_ok {cx : Cx} (ok : CxOk cx) {G : Gh} {w : World} {t : Nat} {v i r : AV} {x y : Value} (hv : VR G w v x) (hi : VR G w i y) (h : indexAddrT cx t v i = some r) :
    ∃ u, (Instr.indexAt t x y).run cx.P w = .ok u w ∧ VR G w r u := by
  unfold indexAddrT at h
  obtain ⟨ti, ht, h⟩ := Option.bind_eq_some_iff.1 h
  obtain ⟨_, z, hi0, hs, _, hz, hc, hzs, hk⟩ := ok.ty t ti ht
  split at h
  · rename_i e he
    unfold KindOk at hk
    rw [he] at hk
    obtain ⟨hu, _⟩ := hk
    simp only [Option.bind_eq_some_iff] at h
    obtain ⟨te, hte, n, hn, h⟩ := h
    obtain ⟨ie, _, hie, hse, _, _, _, _, _⟩ := ok.ty e te hte
    obtain rfl := intOf_ok hi hn
    by_cases h0 : 0 ≤ n
    · rw [if_pos h0] at h
      cases v with
      | sl es o =>
        obtain ⟨c, hcg, h⟩ := Option.bind_eq_some_iff.1 h
        obtain ⟨hlt, rfl⟩ := List.getElem?_eq_some_iff.1 hcg
        by_cases hl : es[n.toNat].length = te.size ∧ 0 < te.size
        · rw [if_pos hl] at h
          cases h
          cases hv with
          | @sl _ _ A cap sz u hcap hzz ha hr ho =>
            have hsz : sz = te.size := by rw [← hzz _ hlt]; exact hl.1
            have hin : 0 ≤ n ∧ n < (es.length : Int) := by omega
            obtain ⟨a, rfl, _⟩ := ha n.toNat 0 hlt (by omega)
            refine ⟨.pointer (some (a.add (n.toNat * te.size))), ?_, ?_⟩
            · simp [Instr.indexAt, run_underlying hu, asIntOf, hin, run_sizeOf hie, hse]
            · refine .rp (fun j => u n.toNat j) (fun j hj => ?_) (fun j hj => hr _ _ _ _)
              obtain ⟨a', e', hcell⟩ := ha n.toNat j hlt (by omega)
              cases e'
              rw [add_add _ _ _ (.inr trivial), ← hsz]
              exact hcell
        · rw [if_neg hl] at h; cases h
      | row b len =>
        by_cases hl : n.toNat < len
        · simp only [hl, if_true, Option.some.injEq] at h
          subst h
          cases hv with
          | @row _ _ a o hl' hv' =>
            have hin : 0 ≤ n ∧ n < (len : Int) := by omega
            refine ⟨.pointer (some (a.add (n.toNat * te.size))), ?_, ?_⟩
            · simp [Instr.indexAt, run_underlying hu, asIntOf, hin, run_sizeOf hie, hse]
            · refine .loc hl' (fun blk e => ?_)
              rw [hv' blk e, add_at]
        · simp only [hl, if_false] at h; cases h
      | _ => cases h
    · rw [if_neg h0] at h; cases h
  · rename_i len e he
    unfold KindOk at hk
    rw [he] at hk
    obtain ⟨hu, _⟩ := hk
    simp only [Option.bind_eq_some_iff] at h
    obtain ⟨te, hte, n, hn, h⟩ := h
    obtain ⟨ie, _, hie, hse, _, _, _, _, _⟩ := ok.ty e te hte
    obtain rfl := intOf_ok hi hn
    by_cases h0 : 0 ≤ n ∧ n < (len : Int)
    · rw [if_pos h0] at h
      cases v with
      | loc b off =>
        cases h
        cases hv with
        | @loc _ _ a o hl hv' =>
          refine ⟨.pointer (some (a.add (n.toNat * te.size))), ?_, loc_add (.loc hl hv') _⟩
          simp [Instr.indexAt, run_underlying hu, asIntOf, Instr.sureAddr, h0, run_sizeOf hie, hse]
      | rp cs =>
        cases h
        have hv0 := hv
        cases hv with
        | @rp _ a u ha hr =>
          refine ⟨.pointer (some (a.add (n.toNat * te.size))), ?_, rp_drop hv0 _⟩
          simp [Instr.indexAt, run_underlying hu, asIntOf, Instr.sureAddr, h0, run_sizeOf hie, hse]
      | _ => cases h
    · rw [if_neg h0] at h; cases h
  · cases h

theorem fieldAddrT_ok {cx : Cx} (ok : CxOk cx) {G : Gh} {w : World} {t f : Nat} {v r : AV} {x : Value} (hv : VR G w v x) (h : fieldAddrT cx t v f = some r) :
    ∃ u, (Instr.fieldAt t x f).run cx.P w = .ok u w ∧ VR G w r u := by
  unfold fieldAddrT at h
  simp only [Option.bind_eq_some_iff] at h
  obtain ⟨ti, ht, ⟨off, tf⟩, hf, h⟩ := h
  obtain ⟨_, z, hi0, hs, _, hz, hc, hzs, hk⟩ := ok.ty t ti ht
  obtain ⟨fields, places, fl, i', z', hu, _, hfl, rfl, _, _, hi', hs', _⟩ := fieldOf_ok ok hk hf
  by_cases h0 : tf.size = 0
  · simp only [h0, if_true] at h; cases h
  · simp only [h0, if_false] at h
    have hfl' : fields[f]? = some fl := by simpa using hfl
    have hne : ¬ i'.size = 0 := by omega
    cases v with
    | loc b off =>
      cases h
      cases hv with
      | @loc _ _ a o hl hv' =>
        refine ⟨.pointer (some (a.add fl.offset)), ?_, loc_add (.loc hl hv') _⟩
        simp [Instr.fieldAt, run_underlying hu, hfl', Instr.sureAddr, fieldPlace, run_sizeOf hi', hne]
    | rp cs =>
      cases h
      have hv0 := hv
      cases hv with
      | @rp _ a u ha hr =>
        refine ⟨.pointer (some (a.add fl.offset)), ?_, rp_drop hv0 _⟩
        simp [Instr.fieldAt, run_underlying hu, hfl', Instr.sureAddr, fieldPlace, run_sizeOf hi', hne]
    | _ => cases h

/-- A part of a value taken out. -/
theorem part_ok {cx : Cx} {G : Gh} {w : World} {t : Nat} {ti : TI} {i : TypeInfo} {z : Value} {cs : List AV} {us : Array Value} {off : Nat} {v : AV} (hi : cx.P.info? t = some i) (hs : i.size = ti.size) (hk : KindOk cx.P t ti z)
    (hr : VRs G w cs us.toList) (h1 : ∀ u ∈ us.toList, u.oneCell' = true) (hl : off + ti.size ≤ cs.length) (h : mk ti ((cs.drop off).take ti.size) = some v) : ∃ u, (part t us off).run cx.P w = .ok u w ∧ VR G w v u := by
  have hlen : cs.length = us.size := by have := hr.1; simpa using this
  unfold part
  rw [Sem.run_bind, kind_agg hk]
  simp only [Result.andThen_ok]
  unfold mk at h
  by_cases hg : ti.isAgg = true
  · rw [if_pos hg] at h ⊢
    cases h
    refine ⟨.agg (us.extract off (off + ti.size)), by simp [run_sizeOf hi, hs], ?_⟩
    have e : (us.extract off (off + ti.size)).toList = (us.toList.drop off).take ti.size := by simp [List.extract_eq_take_drop]
    refine .agg_of (by rw [e]; exact (hr.drop off).take _) (fun u hu => ?_)
    rw [e] at hu
    exact h1 u (List.mem_of_mem_drop (List.mem_of_mem_take hu))
  · have hg' : ti.isAgg = false := by simpa using hg
    rw [if_neg hg] at h ⊢
    obtain ⟨h1s, _⟩ := kind_one hk hg'
    rw [h1s] at h
    have hlt : off < cs.length := by omega
    have : ((cs.drop off).take 1).head? = cs[off]? := by
      rw [List.head?_take]; simp
    rw [this] at h
    obtain ⟨u, hu, hv⟩ := hr.get h
    refine ⟨u, ?_, hv⟩
    have : us[off]? = some u := by simpa using hu
    simp [this]

theorem fieldT_ok {cx : Cx} (ok : CxOk cx) {G : Gh} {w : World} {t f : Nat} {v r : AV} {x : Value} (hv : VR G w v x) (h : fieldT cx t v f = some r) :
    ∃ u, (Instr.field t x f).run cx.P w = .ok u w ∧ VR G w r u := by
  unfold fieldT at h
  simp only [Option.bind_eq_some_iff] at h
  obtain ⟨ti, ht, ⟨off, tf⟩, hf, h⟩ := h
  obtain ⟨_, z, hi0, hs, _, hz, hc, hzs, hk⟩ := ok.ty t ti ht
  obtain ⟨fields, places, fl, i', z', hu, _, hfl, rfl, htf, _, hi', hs', hk'⟩ := fieldOf_ok ok hk hf
  have hfl' : fields[f]? = some fl := by simpa using hfl
  cases v with
  | agg cs =>
    by_cases hl : fl.offset + tf.size ≤ cs.length
    · simp only [hl, if_true] at h
      cases hv with
      | @agg _ vs hl' h1 hr =>
        obtain ⟨u, e1, e2⟩ := part_ok (us := vs.toArray) hi' hs' hk' (by have q : VRs G w cs vs := ⟨hl', hr⟩; simpa using q) (fun u hu => by
          obtain ⟨i, hi⟩ := List.getElem?_of_mem (by simpa using hu : u ∈ vs)
          obtain ⟨hi1, rfl⟩ := List.getElem?_eq_some_iff.1 hi
          exact h1 i (by omega) hi1) hl h
        refine ⟨u, ?_, e2⟩
        simp [Instr.field, run_underlying hu, hfl', asAgg, e1]
    · simp only [hl, if_false] at h; cases h
  | _ => cases h

theorem isIface_false {cx : Cx} (ok : CxOk cx) {t : Nat} (h : isIface cx t = some false) : ∃ d, cx.P.underlying t = some d ∧ (match d with | .interface _ => false | _ => true) = true := by
  unfold isIface at h
  obtain ⟨ti, ht, h⟩ := Option.map_eq_some_iff.1 h
  obtain ⟨_, z, _, _, _, _, _, _, hk⟩ := ok.ty t ti ht
  unfold KindOk at hk
  cases hq : ti.kind <;> rw [hq] at hk h
  · obtain ⟨⟨d, h1, h2⟩, _⟩ := hk; exact ⟨d, h1, by cases d <;> simp_all⟩
  · obtain ⟨⟨e, h1⟩, _⟩ := hk; exact ⟨_, h1, rfl⟩
  · obtain ⟨⟨f, h1, _⟩, _⟩ := hk; exact ⟨_, h1, rfl⟩
  · exact ⟨_, hk.1, rfl⟩
  · exact ⟨_, hk.1, rfl⟩
  · simp at h

theorem zero_ok {cx : Cx} (ok : CxOk cx) (G : Gh) (w : World) {t : Nat} {ti : TI} {v : AV} (ht : cx.ty t = some ti) (hm : mk ti ti.zero = some v) : ∃ z, (zeroValue t).run cx.P w = .ok z w ∧ VR G w v z := by
  obtain ⟨i, z, hi, hs, _, hz, hc, hzs, hk⟩ := ok.ty t ti ht
  refine ⟨z, run_zeroValue hi hz w, ?_⟩
  obtain ⟨r1, r2⟩ := absCells_rel G w _ _ hc
  unfold mk at hm
  by_cases hg : ti.isAgg = true
  · rw [if_pos hg] at hm
    cases hm
    unfold KindOk at hk
    cases hq : ti.kind <;> rw [hq] at hk <;> simp only [TI.isAgg, hq, Bool.false_eq_true] at hg
    · obtain ⟨_, cs, rfl⟩ := hk; exact .agg_of r1 r2
    · obtain ⟨_, cs, rfl⟩ := hk; exact .agg_of r1 r2
  · have hg' : ti.isAgg = false := by simpa using hg
    rw [if_neg hg] at hm
    obtain ⟨_, h1⟩ := kind_one hk hg'
    have hcl : z.cells.toList = [z] := by cases z <;> simp_all [Value.oneCell', Value.cells]
    rw [hcl] at r1
    cases hz0 : ti.zero with
    | nil => rw [hz0] at hm; cases hm
    | cons c cs =>
      rw [hz0] at hm r1
      cases hm
      obtain ⟨u, vs, e, h2, _⟩ := r1.uncons
      cases e
      exact h2

theorem typeAssertT_ok {cx : Cx} (ok : CxOk cx) {G : Gh} {w : World} {xt a : Nat} {b : Bool} {v r : AV} {x : Value} (hv : VR G w v x) (h : typeAssertT cx v a b = some r) :
    ∃ u, (Instr.typeAssert x xt a b).run cx.P w = .ok u w ∧ VR G w r u := by
  have two : ∀ {p q : AV} {y z : Value}, VR G w p y → VR G w q z → VR G w (.tup [p, q]) (.tuple #[y, z]) := fun h1 h2 => .tup_of (vs := #[_, _]) (.cons h1 (.cons h2 (VRs.nil G w)))
  unfold typeAssertT at h
  cases hq : isIface cx a with
  | none => rw [hq] at h; cases h
  | some bb =>
    cases bb with
    | true => rw [hq] at h; cases v <;> cases h
    | false =>
      rw [hq] at h
      obtain ⟨d, hd, hd2⟩ := isIface_false ok hq
      have miss : ∀ {r : AV}, ((cx.ty a).bind fun ti => (mk ti ti.zero).map fun z => AV.tup [z, .bool false]) = some r → ∃ u, (zeroValue a).run cx.P w = .ok u w ∧ VR G w r (.tuple #[u, .bool false]) := by
        intro r hr
        obtain ⟨ti, ht, hr⟩ := Option.bind_eq_some_iff.1 hr
        obtain ⟨z, hz, rfl⟩ := Option.map_eq_some_iff.1 hr
        obtain ⟨u, h1, h2⟩ := zero_ok ok G w ht hz
        exact ⟨u, h1, two h2 .bool⟩
      cases v with
      | iface t v =>
        cases hv with
        | @iface _ _ u hr =>
          simp only at h
          by_cases hta : t = a
          · rw [if_pos hta] at h
            cases h
            subst hta
            cases b with
            | true => exact ⟨.tuple #[u, .bool true], by cases d <;> simp_all [Instr.typeAssert, run_underlying hd], by simpa using two hr .bool⟩
            | false => exact ⟨u, by cases d <;> simp_all [Instr.typeAssert, run_underlying hd], by simpa using hr⟩
          · rw [if_neg hta] at h
            cases b with
            | false => cases h
            | true =>
              obtain ⟨u', h1, h2⟩ := miss (by simpa using h)
              exact ⟨_, by cases d <;> simp_all [Instr.typeAssert, run_underlying hd] <;> rfl, h2⟩
      | nili =>
        cases hv
        simp only at h
        cases b with
        | false => cases h
        | true =>
          obtain ⟨u', h1, h2⟩ := miss (by simpa using h)
          exact ⟨_, by cases d <;> simp_all [Instr.typeAssert, run_underlying hd] <;> rfl, h2⟩
      | _ => cases h

end M
end Go.Proofs.Ytgkdehfbeejlfaa
