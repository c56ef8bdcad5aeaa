/- A part of the proof: Mc16. -/
import Derived.Test.YthclcchnodjjpaaGreatDoorG07
/- SOUNDNESS 15: regions without an order: the check, and that every order does the same. -/
set_option linter.unusedVariables false
set_option linter.unusedSimpArgs false
namespace Go.Proofs.YthclcchnodjjpaaGreatDoor
namespace M

/-! ### The check -/
def maskGo (A : List Nat) : List Edge → Nat → Nat
  | [], m => m
  | e :: es, m => maskGo A es (if Region.binds .any e = true then (m ||| 2 ^ e.on) ||| A.getD e.on 0 else m)

def staysB (ops : Array Oper) (o : Oper) (later : List Oper) : Bool :=
  (later.all fun k => match k.dst with
    | some d => !(o.looksAt ops).contains d && o.dst != some d
    | none => true) && match o.dst with
    | some d => !(o.looksAt ops).contains d
    | none => true

def pairB (cx : Cx) (ops : Array Oper) (lz : List (Nat × Nat)) (j : Nat) (oj : Oper) (lj : List Oper) (i : Nat) (oi : Oper) (li : List Oper) : Bool :=
  oj.apart ops oi && (freeK (kd cx oj.op) (kd cx oi.op) || (looseK (kd cx oj.op) (kd cx oi.op) && lz.contains (j, i) && staysB ops oj lj && staysB ops oi li))

def regGo (cx : Cx) (ops : Array Oper) (lz : List (Nat × Nat)) : Nat → List (Nat × Oper × List Oper) → List Nat → List Oper → Bool
  | _, _, _, [] => true
  | i, prev, A, o :: os =>
    (o.after.toList.all fun e => !Region.binds .any e || decide (e.on < i)) &&
    (prev.all fun p => (maskGo A o.after.toList 0).testBit p.1 || pairB cx ops lz p.1 p.2.1 p.2.2 i o os) &&
    regGo cx ops lz (i + 1) (prev ++ [(i, o, os)]) (A ++ [maskGo A o.after.toList 0]) os

/-- Every order of the region does the same, if the loose pairs do not meet. -/
def regOk (cx : Cx) (ops : Array Oper) (lz : List (Nat × Nat)) : Bool := regGo cx ops lz 0 [] [] ops.toList

inductive Ord (ops : Array Oper) : Nat → Nat → Prop where
  | here {i : Nat} {o : Oper} {e : Edge} (ho : ops[i]? = some o) (he : e ∈ o.after) (hb : Region.binds .any e = true) : Ord ops e.on i
  | next {i j : Nat} {o : Oper} {e : Edge} (ho : ops[i]? = some o) (he : e ∈ o.after) (hb : Region.binds .any e = true) (h : Ord ops j e.on) : Ord ops j i

theorem maskGo_spec (A : List Nat) (j : Nat) : ∀ (es : List Edge) (m : Nat), (maskGo A es m).testBit j = true → m.testBit j = true ∨ ∃ e ∈ es, Region.binds .any e = true ∧ (e.on = j ∨ (A.getD e.on 0).testBit j = true)
  | [], m, h => .inl h
  | e :: es, m, h => by
    rcases maskGo_spec A j es _ h with h | ⟨e', he, hb, h⟩
    · by_cases hb : Region.binds .any e = true
      · rw [if_pos hb, Nat.testBit_or, Nat.testBit_or, Bool.or_eq_true, Bool.or_eq_true, Nat.testBit_two_pow] at h
        rcases h with (h | h) | h
        · exact .inl h
        · exact .inr ⟨e, by simp, hb, .inl (by simpa using h)⟩
        · exact .inr ⟨e, by simp, hb, .inr h⟩
      · rw [if_neg hb] at h; exact .inl h
    · exact .inr ⟨e', by simp [he], hb, h⟩

theorem regGo_spec {cx : Cx} {ops : Array Oper} {lz : List (Nat × Nat)} : ∀ (os pre : List Oper) (prev : List (Nat × Oper × List Oper)) (A : List Nat), ops.toList = pre ++ os → A.length = pre.length →
    (∀ (k j : Nat), (A.getD k 0).testBit j = true → Ord ops j k) → (∀ (j : Nat) (oj : Oper), j < pre.length → ops[j]? = some oj → (j, oj, ops.toList.drop (j + 1)) ∈ prev) → regGo cx ops lz pre.length prev A os = true →
    ∀ (i : Nat) (oi : Oper), pre.length ≤ i → ops[i]? = some oi → (∀ e ∈ oi.after, Region.binds .any e = true → e.on < i) ∧
      ∀ (j : Nat) (oj : Oper), j < i → ops[j]? = some oj → Ord ops j i ∨ pairB cx ops lz j oj (ops.toList.drop (j + 1)) i oi (ops.toList.drop (i + 1)) = true
  | [], pre, prev, A, ho, hl, hA, hp, h, i, oi, hi, hoi => by
    have : i < ops.toList.length := by simpa using (Array.getElem?_eq_some_iff.1 hoi).1
    rw [ho] at this
    simp at this; omega
  | o :: os, pre, prev, A, ho, hl, hA, hp, h, i, oi, hi, hoi => by
    simp only [regGo, Bool.and_eq_true, List.all_eq_true, Bool.or_eq_true, Bool.not_eq_true', decide_eq_true_eq] at h
    obtain ⟨⟨he, hpr⟩, hrec⟩ := h
    have h0 : ops[pre.length]? = some o := by rw [← Array.getElem?_toList, ho]; simp
    have hdrop : ops.toList.drop (pre.length + 1) = os := by rw [ho]; simp
    have hm : ∀ j, (maskGo A o.after.toList 0).testBit j = true → Ord ops j pre.length := fun j hj => by
      rcases maskGo_spec A j _ 0 hj with h | ⟨e, he, hb, h⟩
      · simp at h
      · rcases h with h | h
        · subst h; exact .here h0 (by simpa using he) hb
        · exact .next h0 (by simpa using he) hb (hA _ _ h)
    rcases Nat.lt_or_ge pre.length i with hlt | hge
    · have := regGo_spec os (pre ++ [o]) (prev ++ [(pre.length, o, os)]) (A ++ [maskGo A o.after.toList 0]) (by rw [ho]; simp) (by simp [hl]) (fun k j hj => ?_) (fun j oj hj hoj => ?_) (by simpa using hrec) i oi (by simp; omega) hoi
      · exact this
      · simp only [List.getD, List.getElem?_append, hl] at hj
        split at hj
        · exact hA k j hj
        · rename_i hk
          by_cases hk0 : k = pre.length
          · subst hk0; simp at hj; exact hm j hj
          · have : k - pre.length ≠ 0 := by omega
            rw [List.getElem?_singleton, if_neg this] at hj
            simp at hj
      · simp at hj
        rcases Nat.lt_or_ge j pre.length with h1 | h1
        · exact List.mem_append_left _ (hp j oj h1 hoj)
        · have : j = pre.length := by omega
          subst this
          rw [h0] at hoj
          cases hoj
          rw [hdrop]; simp
    · have : i = pre.length := by omega
      subst this
      rw [h0] at hoi
      cases hoi
      refine ⟨fun e hm' hb => (he e (by simpa using hm')).resolve_left (by simp [hb]), fun j oj hj hoj => ?_⟩
      rcases hpr _ (hp j oj hj hoj) with h | h
      · exact .inl (hm j h)
      · right; rw [hdrop]; exact h

theorem regOk_spec {cx : Cx} {ops : Array Oper} {lz : List (Nat × Nat)} (h : regOk cx ops lz = true) (i : Nat) (oi : Oper) (hoi : ops[i]? = some oi) : (∀ e ∈ oi.after, Region.binds .any e = true → e.on < i) ∧
    ∀ (j : Nat) (oj : Oper), j < i → ops[j]? = some oj → Ord ops j i ∨ pairB cx ops lz j oj (ops.toList.drop (j + 1)) i oi (ops.toList.drop (i + 1)) = true :=
  regGo_spec ops.toList [] [] [] rfl rfl (fun k j h => by simp at h) (fun j oj h => by simp at h) h i oi (Nat.zero_le _) hoi

/-! ### Indices not yet listed -/
def rem (ops : Array Oper) (listed : Array Bool) : List Nat := (List.range ops.size).filter fun i => !listed.getD i true

def Closed (ops : Array Oper) (listed : Array Bool) : Prop := ∀ (i : Nat) (o : Oper), listed.getD i false = true → ops[i]? = some o → ∀ e ∈ o.after, Region.binds .any e = true → listed.getD e.on false = true

theorem getD_both {listed : Array Bool} {i : Nat} (h : i < listed.size) (a b : Bool) : listed.getD i a = listed.getD i b := by simp [h]

theorem ord_listed {ops : Array Oper} {listed : Array Bool} (hc : Closed ops listed) {j i : Nat} (h : Ord ops j i) : (∀ (o : Oper), ops[i]? = some o → ∀ e ∈ o.after, Region.binds .any e = true → listed.getD e.on false = true) → listed.getD j false = true := by
  induction h with
  | here ho he hb => intro hr; exact hr _ ho _ he hb
  | next ho he hb _ ih => intro hr; exact ih fun o' ho' e' he' hb' => hc _ _ (hr _ ho _ he hb) ho' e' he' hb'

theorem rem_split {ops : Array Oper} {listed : Array Bool} (hs : listed.size = ops.size) {i : Nat} (hi : i ∈ rem ops listed) :
    ∃ pre post, rem ops listed = pre ++ i :: post ∧ rem ops (listed.setIfInBounds i true) = pre ++ post ∧ (∀ k ∈ pre, k < i) ∧ (∀ k ∈ post, i < k) ∧ (pre ++ post).Pairwise (· < ·) := by
  have hpw : (rem ops listed).Pairwise (· < ·) := (List.pairwise_lt_range).filter _
  obtain ⟨pre, post, he⟩ := List.append_of_mem hi
  rw [he] at hpw
  obtain ⟨p1, p2, p3⟩ := List.pairwise_append.1 hpw
  obtain ⟨p4, p5⟩ := List.pairwise_cons.1 p2
  have hpre : ∀ k ∈ pre, k < i := fun k hk => p3 k hk i (by simp)
  refine ⟨pre, post, he, ?_, hpre, p4, List.pairwise_append.2 ⟨p1, p5, fun a ha b hb => p3 a ha b (by simp [hb])⟩⟩
  have hlt : i < listed.size := by
    have := (List.mem_filter.1 hi).1
    rw [hs]; simpa using this
  have h1 : rem ops (listed.setIfInBounds i true) = (rem ops listed).filter fun k => k != i := by
    unfold rem
    rw [List.filter_filter]
    refine List.filter_congr fun k _ => ?_
    by_cases hk : i = k
    · subst hk; simp [hlt]
    · rw [getD_set_ne true hk]
      have : (k != i) = true := by simp; exact fun e => hk e.symm
      rw [this, Bool.true_and]
  rw [h1, he, List.filter_append, List.filter_cons]
  have hii : (i != i) = false := by simp
  simp only [hii, Bool.false_eq_true, if_false]
  rw [List.filter_eq_self.2 fun k hk => ?_, List.filter_eq_self.2 fun k hk => ?_]
  · have := p4 k hk; simp; omega
  · have := hpre k hk; simp; omega

theorem apartT_spec {r : Regs} {ops : Array Oper} : ∀ {lz : List (Nat × Nat)}, apartT r ops lz = true → ∀ (j i : Nat) (oj oi : Oper), (j, i) ∈ lz → ops[j]? = some oj → ops[i]? = some oi → Dis r oj oi
  | [], _, j, i, oj, oi, h, _, _ => by simp at h
  | (a, b) :: lz, hap, j, i, oj, oi, h, hj, hi => by
    simp only [apartT, Bool.and_eq_true] at hap
    rcases List.mem_cons.1 h with h | h
    · cases h
      have h1 := hap.1
      rw [hj, hi] at h1
      simp only [Bool.and_eq_true, List.all_eq_true, Bool.not_eq_true', List.contains_eq_mem, decide_eq_false_iff_not] at h1
      exact h1
    · exact apartT_spec hap.2 j i oj oi h hj hi

theorem staysB_spec {ops : Array Oper} {o : Oper} {later : List Oper} (h : staysB ops o later = true) : Stays ops o later ∧ Own1 ops o := by
  simp only [staysB, Bool.and_eq_true, List.all_eq_true] at h
  refine ⟨fun k hk d hd => ?_, fun d hd => ?_⟩
  · have := h.1 k hk
    rw [hd] at this
    simpa using this
  · have := h.2
    rw [hd] at this
    simpa using this

theorem pick_mem {ops : Array Oper} {l : List Nat} {o : Oper} (h : o ∈ pickOps ops l) : ∃ k ∈ l, ops[k]? = some o := List.mem_filterMap.1 h

theorem pick_append (ops : Array Oper) (a b : List Nat) : pickOps ops (a ++ b) = pickOps ops a ++ pickOps ops b := by simp [pickOps]

theorem pick_cons {ops : Array Oper} {i : Nat} {o : Oper} (h : ops[i]? = some o) (l : List Nat) : pickOps ops (i :: l) = o :: pickOps ops l := by simp [pickOps, h]

/-- A place in the operations of some indices is the place of an index. -/
theorem pick_split {ops : Array Oper} : ∀ (l : List Nat) (p : List Oper) (o : Oper) (q : List Oper), pickOps ops l = p ++ o :: q → ∃ l1 j l2, l = l1 ++ j :: l2 ∧ ops[j]? = some o ∧ pickOps ops l2 = q
  | [], p, o, q, h => by simp [pickOps] at h
  | k :: l, p, o, q, h => by
    cases hk : ops[k]? with
    | none =>
      obtain ⟨l1, j, l2, e, h1, h2⟩ := pick_split l p o q (by simpa [pickOps, hk] using h)
      exact ⟨k :: l1, j, l2, by rw [e]; rfl, h1, h2⟩
    | some ok =>
      rw [pick_cons hk] at h
      cases p with
      | nil =>
        simp only [List.nil_append, List.cons.injEq] at h
        obtain ⟨rfl, rfl⟩ := h
        exact ⟨[], k, l, rfl, hk, rfl⟩
      | cons x p =>
        simp only [List.cons_append, List.cons.injEq] at h
        obtain ⟨l1, j, l2, e, h1, h2⟩ := pick_split l p o q h.2
        exact ⟨k :: l1, j, l2, by rw [e]; rfl, h1, h2⟩

theorem wpAny_of {cx : Cx} (ok : CxOk cx) {C : Oracle} (cs : CSound cx C) {ops : Array Oper} {lz : List (Nat × Nat)} (hreg : regOk cx ops lz = true) {Q : Exit → Act → World → Prop} : ∀ (fuel : Nat) (listed : Array Bool) {G : Gh} {w : World} {r : Regs} {S : St} {X : Regs × St} {a : Act},
    listed.size = ops.size → Closed ops listed → (rem ops listed).length ≤ fuel → opsT cx C ops (pickOps ops (rem ops listed)) r S = some X → apartT X.1 ops lz = true → VRs G w r a.tmps.toList → SR G S w →
    (∀ a' w' G', VRs G' w' X.1 a'.tmps.toList → SR G' X.2 w' → Mv G w G' w' → a'.defers = a.defers → Q .normal a' w') → wpAny cx.P .any ops Q fuel listed a w := by
  have readyRem : ∀ {listed : Array Bool} {i : Nat}, i ∈ Region.ready .any ops listed → i ∈ rem ops listed := fun h => by
    obtain ⟨h0, o, ho, _⟩ := mem_ready.1 h
    exact List.mem_filter.2 ⟨by simpa using (Array.getElem?_eq_some_iff.1 ho).1, by simp only [h0]; rfl⟩
  have done : ∀ {listed : Array Bool} {G : Gh} {w : World} {r : Regs} {S : St} {X : Regs × St} {a : Act}, rem ops listed = [] → opsT cx C ops (pickOps ops (rem ops listed)) r S = some X → VRs G w r a.tmps.toList → SR G S w →
      (∀ a' w' G', VRs G' w' X.1 a'.tmps.toList → SR G' X.2 w' → Mv G w G' w' → a'.defers = a.defers → Q .normal a' w') → Q .normal a w := by
    intro listed G w r S X a hr h hv sr hQ
    rw [hr] at h
    simp only [pickOps, List.filterMap_nil, opsT, Option.some.injEq] at h
    subst h
    exact hQ a w G hv sr (Mv.refl G w) rfl
  intro fuel
  induction fuel with
  | zero =>
    intro listed G w r S X a hs hc hl h hap hv sr hQ
    have hr : rem ops listed = [] := List.eq_nil_of_length_eq_zero (by omega)
    refine ⟨List.eq_nil_iff_forall_not_mem.2 fun i hi => ?_, done hr h hv sr hQ⟩
    have := readyRem hi
    rw [hr] at this
    simp at this
  | succ fuel ih =>
    intro listed G w r S X a hs hc hl h hap hv sr hQ
    refine ⟨fun hnil => ?_, fun i hi => ?_⟩
    · refine done ?_ h hv sr hQ
      cases hr : rem ops listed with
      | nil => rfl
      | cons i l =>
        exfalso
        have hmem : i ∈ rem ops listed := by rw [hr]; simp
        obtain ⟨m1, m2⟩ := List.mem_filter.1 hmem
        have hlt : i < ops.size := by simpa using m1
        have hpw : (rem ops listed).Pairwise (· < ·) := (List.pairwise_lt_range).filter _
        rw [hr] at hpw
        have hmin := (List.pairwise_cons.1 hpw).1
        have : i ∈ Region.ready .any ops listed := mem_ready.2 ⟨by simpa using m2, ops[i], Array.getElem?_eq_getElem hlt, fun e he hb => by
          have hei := (regOk_spec hreg i ops[i] (Array.getElem?_eq_getElem hlt)).1 e he hb
          rw [getD_both (by omega) false true]
          by_cases hl : listed.getD e.on true = true
          · exact hl
          · have hm : e.on ∈ rem ops listed := List.mem_filter.2 ⟨by simp; omega, by simpa using hl⟩
            rw [hr] at hm
            rcases List.mem_cons.1 hm with h | h
            · omega
            · have := hmin _ h; omega⟩
        rw [hnil] at this
        simp at this
    · have hrm := readyRem hi
      obtain ⟨h0, oi, hoi, hall⟩ := mem_ready.1 hi
      obtain ⟨pre, post, e1, e2, k1, k2, kp⟩ := rem_split hs hrm
      have hilt : i < listed.size := by rw [hs]; exact (Array.getElem?_eq_some_iff.1 hoi).1
      rw [e1, pick_append, pick_cons hoi] at h
      have hb := bubble (pickOps ops pre) h fun p oj q hpq => by
        obtain ⟨l1, j, l2, el, hoj, hq⟩ := pick_split pre p oj q hpq
        have hjpre : j ∈ pre := by rw [el]; simp
        have hji := k1 j hjpre
        have hun : ∀ k ∈ pre, listed.getD k false = false := fun k hk => by
          have : k ∈ rem ops listed := by rw [e1]; simp [hk]
          obtain ⟨m1, m2⟩ := List.mem_filter.1 this
          rw [getD_both (by have := k1 k hk; omega) false true]
          simpa using m2
        have notOrd : ∀ k ∈ pre, ¬ Ord ops k i := fun k hk ho => by
          have := ord_listed hc ho fun o ho e he hb => by
            rw [hoi] at ho
            cases ho
            exact hall e he hb
          rw [hun k hk] at this
          cases this
        have pb : ∀ k ∈ pre, ∀ ok, ops[k]? = some ok → pairB cx ops lz k ok (ops.toList.drop (k + 1)) i oi (ops.toList.drop (i + 1)) = true := fun k hk ok hok =>
          ((regOk_spec hreg i oi hoi).2 k ok (k1 k hk) hok).resolve_left (notOrd k hk)
        have pj := pb j hjpre oj hoj
        unfold pairB at pj
        simp only [Bool.and_eq_true, Bool.or_eq_true] at pj
        refine ⟨pj.1, pj.2.imp id fun ⟨⟨⟨c1, c2⟩, c3⟩, c4⟩ => ?_⟩
        obtain ⟨s1, o1⟩ := staysB_spec c3
        obtain ⟨s2, o2⟩ := staysB_spec c4
        have later : ∀ {k : Nat} {o : Oper} {m : Nat}, m < k → ops[k]? = some o → o ∈ ops.toList.drop (m + 1) := fun {k o m} hmk ho => by
          refine List.mem_of_getElem? (i := k - (m + 1)) ?_
          rw [List.getElem?_drop, show m + 1 + (k - (m + 1)) = k by omega, Array.getElem?_toList]
          exact ho
        have hj2 : ∀ k ∈ l2 ++ post, j < k := fun k hk => by
          rw [el, List.append_assoc, List.cons_append] at kp
          exact (List.pairwise_cons.1 (List.pairwise_append.1 kp).2.1).1 k hk
        refine ⟨c1, apartT_spec hap j i oj oi (by simpa using c2) hoj hoi, fun o ho d hd => ?_, fun o ho d hd => ?_, o1, o2⟩
        · rw [← hq, ← pick_append] at ho
          obtain ⟨k, hk, hok⟩ := pick_mem ho
          exact s1 o (later (hj2 k hk) hok) d hd
        · rw [← hq, ← pick_append] at ho
          obtain ⟨k, hk, hok⟩ := pick_mem ho
          rcases List.mem_append.1 hk with hk | hk
          · have hkp : k ∈ pre := by rw [el]; simp [hk]
            have pk := pb k hkp o hok
            unfold pairB at pk
            simp only [Bool.and_eq_true] at pk
            obtain ⟨a1, a2, a3⟩ := Oper.apart_spec pk.1
            exact ⟨a1 d hd, fun e => a2 d hd e⟩
          · exact s2 o (later (k2 k hk) hok) d hd
      simp only [opsT, Option.bind_eq_some_iff] at hb
      obtain ⟨⟨r1, S1⟩, hst, hrest⟩ := hb
      refine stepT_wp ok cs hoi hv sr hst fun a' w' G' q1 q2 q3 q4 => ?_
      refine ih (listed.setIfInBounds i true) (by simpa using hs) (fun k o hk hok e he hbd => ?_) ?_ ?_ hap q1 q2 fun a'' w'' G'' p1 p2 p3 p4 => hQ a'' w'' G'' p1 p2 (q3.trans p3) (p4.trans q4)
      · by_cases hki : i = k
        · subst hki
          rw [hoi] at hok
          cases hok
          exact getD_set_true (hall e he hbd)
        · rw [getD_set_ne false hki] at hk
          exact getD_set_true (hc k o hk hok e he hbd)
      · rw [e2]
        rw [e1] at hl
        simp at hl ⊢
        omega
      · rw [e2, pick_append]
        exact hrest

theorem region_any_wp {cx : Cx} (ok : CxOk cx) {C : Oracle} (cs : CSound cx C) {id : Nat} {ops : Array Oper} {lz : List (Nat × Nat)} (hreg : regOk cx ops lz = true) {Q : Exit → Act → World → Prop} {G : Gh} {w : World} {r r' : Regs} {S S' : St} {a : Act} (hr : VRs G w r a.tmps.toList) (sr : SR G S w)
    (h : opsT cx C ops ops.toList r S = some (r', S')) (hap : apartT r' ops lz = true) (hQ : ∀ a' w' G', VRs G' w' r' a'.tmps.toList → SR G' S' w' → Mv G w G' w' → a'.defers = a.defers → Q .normal a' w') : (Code.region id ops true).wp cx.P Q a w := by
  have hrem : rem ops (Array.replicate ops.size false) = List.range ops.size := by
    unfold rem
    refine List.filter_eq_self.2 fun k hk => ?_
    have : k < ops.size := by simpa using hk
    simp [this]
  have old := Old.drew w
  refine wp_region_any ok.mixed (wpAny_of ok cs hreg ops.size _ (by simp) (fun i o hi => ?_) (by rw [hrem]; simp) (by rw [hrem, pick_range]; exact h) hap (hr.mono (old.ge G)) (old.sr sr) fun a' w' G' p1 p2 p3 p4 => hQ a' w' G' p1 p2 ((old.mv G).trans p3) p4)
  by_cases hlt : i < ops.size
  · simp [hlt] at hi
  · simp [hlt] at hi

end M
end Go.Proofs.YthclcchnodjjpaaGreatDoor
