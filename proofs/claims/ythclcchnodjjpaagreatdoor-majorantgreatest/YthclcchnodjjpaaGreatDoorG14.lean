/- A part of the proof: MkA, MkB, MkC, Tp. -/
import Derived.Test.YthclcchnodjjpaaGreatDoorG13
import Derived.Test.YthclcchnodjjpaaGreatDoorG02
import Derived.Test.YthclcchnodjjpaaGreatDoorG10
/- ref01.Same; make.vars, longer, Num, App, Context; ref05.numeral, Number. -/
set_option linter.unusedVariables false
set_option linter.unusedSimpArgs false
set_option maxRecDepth 10000
set_option maxHeartbeats 4000000
namespace Go.Proofs.YthclcchnodjjpaaGreatDoor
namespace M
attribute [local irreducible] Wp thenK blockK endK
variable {E : Oracle}
open T (Ty Tm noTy)
mutual
/-- Are two raw types the same? -/
def RT.beq : RT → RT → Bool
  | .mk k l, .mk m r => decide (k = m) && RT.beqs l r
def RT.beqs : List RT → List RT → Bool
  | [], [] => true
  | a :: l, b :: r => a.beq b && RT.beqs l r
  | _, _ => false
end
theorem RT.beq_iff (t : RT) : ∀ u : RT, t.beq u = true ↔ t = u := by
  induction t using RT.ind with | h k l ih =>
  intro u
  obtain ⟨m, r⟩ := u
  have : ∀ r, RT.beqs l r = true ↔ l = r := by
    clear r
    induction l with
    | nil => intro r; cases r <;> simp [RT.beqs]
    | cons a l ihl =>
      intro r
      cases r with
      | nil => simp [RT.beqs]
      | cons b r =>
        simp only [RT.beqs, Bool.and_eq_true, List.cons.injEq]
        rw [ih a (by simp), ihl (fun x hx => ih x (by simp [hx]))]
  simp only [RT.beq, Bool.and_eq_true, decide_eq_true_eq, this, RT.mk.injEq]
theorem RT.beqs_len : ∀ {l r : List RT}, l.length ≠ r.length → RT.beqs l r = false
  | [], [], h => absurd rfl h
  | [], _ :: _, _ => rfl
  | _ :: _, [], _ => rfl
  | a :: l, b :: r, h => by simp only [RT.beqs, RT.beqs_len (l := l) (r := r) (by simpa using h), Bool.and_false]
theorem RT.beqs_split {a b : RT} : ∀ {l r l' r' : List RT}, l.length = r.length → RT.beqs (l ++ a :: l') (r ++ b :: r') = (RT.beqs l r && (a.beq b && RT.beqs l' r'))
  | [], [], l', r', _ => by simp [RT.beqs]
  | x :: l, y :: r, l', r', h => by simp only [List.cons_append, RT.beqs, RT.beqs_split (l := l) (r := r) (by simpa using h), Bool.and_assoc]
theorem same1 (t : RT) : ∀ u : RT, t.nodes ≤ 1000000000 → den X E 17 [t.enc, u.enc] [] = some (.bool (t.beq u), []) := by
  induction t using RT.ind with | h k l ih =>
  intro u ht
  obtain ⟨m, r⟩ := u
  have hlen := RT.nodes_len k l
  by_cases hk : k = m
  rotate_left
  · have hb : (RT.mk k l).beq (.mk m r) = false := by simp [RT.beq, hk]
    refine den_w0 (fn := Tryz.f17) (by rfl) (by rfl) (by kernel_rfl) rfl (by rfl) ?_
    simp -implicitDefEqProofs
    (repeat (first | refine Wp.seq ?_ | refine Wp.block ?_ | refine Wp.skip ?_ | refine Wp.exit ?_ | refine Wp.ret ?_ | refine thenK_n ?_ | refine thenK_r ?_ | refine thenK_e ?_ | refine blockK_n ?_ | refine blockK_r ?_ | refine blockK_e ?_ | refine blockK_o (by decide) ?_ | (refine Wp.condT ?_ ?_; focus (simp -implicitDefEqProofs [hk] <;> fail)) | (refine Wp.condF ?_ ?_; focus (simp -implicitDefEqProofs [hk] <;> fail)) | refine Wp.reg (by simp -implicitDefEqProofs [hk]; exact ⟨rfl, rfl⟩) ?_ | refine Wp.regA (by simp -implicitDefEqProofs [hk]; exact ⟨rfl, rfl⟩) (by rfl) ?_))
    (apply endK_r; (focus (simp -implicitDefEqProofs [Tryz.f17, hb]; try rfl)); (focus (intro g; simp -implicitDefEqProofs [Tryz.f17, hb])); exact ⟨_, rfl⟩)
  subst hk
  by_cases hl : l.length = r.length
  rotate_left
  · have hb : (RT.mk k l).beq (.mk k r) = false := by simp [RT.beq, RT.beqs_len hl]
    have hl' : ¬ (l.length : Int) = r.length := by omega
    refine den_w0 (fn := Tryz.f17) (by rfl) (by rfl) (by kernel_rfl) rfl (by rfl) ?_
    simp -implicitDefEqProofs
    (repeat (first | refine Wp.seq ?_ | refine Wp.block ?_ | refine Wp.skip ?_ | refine Wp.exit ?_ | refine Wp.ret ?_ | refine thenK_n ?_ | refine thenK_r ?_ | refine thenK_e ?_ | refine blockK_n ?_ | refine blockK_r ?_ | refine blockK_e ?_ | refine blockK_o (by decide) ?_ | (refine Wp.condT ?_ ?_; focus (simp -implicitDefEqProofs [hl'] <;> fail)) | (refine Wp.condF ?_ ?_; focus (simp -implicitDefEqProofs [hl'] <;> fail)) | refine Wp.reg (by simp -implicitDefEqProofs [hl']; exact ⟨rfl, rfl⟩) ?_ | refine Wp.regA (by simp -implicitDefEqProofs [hl']; exact ⟨rfl, rfl⟩) (by rfl) ?_))
    (apply endK_r; (focus (simp -implicitDefEqProofs [Tryz.f17, hb]; try rfl)); (focus (intro g; simp -implicitDefEqProofs [Tryz.f17, hb])); exact ⟨_, rfl⟩)
  have hb : (RT.mk k l).beq (.mk k r) = RT.beqs l r := by simp [RT.beq]
  have ihc : ∀ a ∈ l, ∀ b : RT, ∀ (g : Nat) (S : St) (o1 o2 : Own), callT (X.at g) (den X E) S 17 [.agg [.int .i64 a.k, .sl (List.map RT.cells a.as) o1], .agg [.int .i64 b.k, .sl (List.map RT.cells b.as) o2]] = some (.bool (a.beq b), S) := by
    intro a ha b
    have h : ∀ (g : Nat) (S : St) (o1 o2 : Own), callT (X.at g) (den X E) S 17 [.agg [.int .i64 a.k, .sl (List.map RT.cells a.as) o1], .agg [.int .i64 b.k, .sl (List.map RT.cells b.as) o2]] = some (.bool (a.beq b), S) := by
      intros
      simpa using call_up (cf := X.at _) (fn := Tryz.f17) (args' := [_, _]) (by kernel_rfl) (by simp) (by simp; try rfl) (ih a ha b (by have := RT.nodes_mem (k := k) ha; omega)) _
    exact h
  have hl' : (l.length : Int) = r.length := by omega
  refine den_w0 (fn := Tryz.f17) (by rfl) (by rfl) (by kernel_rfl) rfl (by rfl) ?_
  simp -implicitDefEqProofs
  (repeat (first | refine Wp.seq ?_ | refine Wp.block ?_ | refine Wp.skip ?_ | refine Wp.exit ?_ | refine Wp.ret ?_ | refine thenK_n ?_ | refine thenK_r ?_ | refine thenK_e ?_ | refine blockK_n ?_ | refine blockK_r ?_ | refine blockK_e ?_ | refine blockK_o (by decide) ?_ | (refine Wp.condT ?_ ?_; focus (simp -implicitDefEqProofs [hl'] <;> fail)) | (refine Wp.condF ?_ ?_; focus (simp -implicitDefEqProofs [hl'] <;> fail)) | refine Wp.reg (by simp -implicitDefEqProofs [hl']; exact ⟨rfl, rfl⟩) ?_ | refine Wp.regA (by simp -implicitDefEqProofs [hl']; exact ⟨rfl, rfl⟩) (by rfl) ?_))
  refine Wp.loopF [4, 5, 23, 24, 25, 26, 27, 28, 29, 30, 31, 32, 33, 34, 35, 36, 37, 38] [] (fun n w c tk => ∃ d1 r1 d2 r2, l = d1 ++ r1 ∧ r = d2 ++ r2 ∧ d1.length = d2.length ∧ n = r1.length ∧ w 23 = .int .i64 d1.length ∧ RT.beqs d1 d2 = true) (l.length) ?_ ?_ ?_ ?_
  · rfl
  · rfl
  · exact ⟨[], l, [], r, by simp, by simp, rfl, rfl, rfl, rfl⟩
  rintro n w c junk tk r' σ ⟨d1, r1, d2, r2, h1, h2, hd, rfl, h23, hbs⟩ hr hσ
  simp -implicitDefEqProofs [h23] at hr hσ
  subst hr hσ
  cases r1 with
  | nil =>
    have hr2 : r2 = [] := by
      have := congrArg List.length h1
      have := congrArg List.length h2
      simp at *
      exact List.eq_nil_of_length_eq_zero (by omega)
    subst hr2
    simp at h1 h2
    subst h1 h2
    rw [hbs] at hb
    (repeat (first | refine Wp.seq ?_ | refine Wp.block ?_ | refine Wp.skip ?_ | refine Wp.exit ?_ | refine Wp.ret ?_ | refine thenK_n ?_ | refine thenK_r ?_ | refine thenK_e ?_ | refine blockK_n ?_ | refine blockK_r ?_ | refine blockK_e ?_ | refine blockK_o (by decide) ?_ | (refine Wp.condT ?_ ?_; focus (simp -implicitDefEqProofs [hd] <;> fail)) | (refine Wp.condF ?_ ?_; focus (simp -implicitDefEqProofs [hd] <;> fail)) | refine Wp.reg (by simp -implicitDefEqProofs [hd]; exact ⟨rfl, rfl⟩) ?_ | refine Wp.regA (by simp -implicitDefEqProofs [hd]; exact ⟨rfl, rfl⟩) (by rfl) ?_))
    (apply endK_r; (focus (simp -implicitDefEqProofs [Tryz.f17, hb]; try rfl)); (focus (intro g; simp -implicitDefEqProofs [Tryz.f17, hb])); exact ⟨_, rfl⟩)
  | cons a r1 =>
    cases r2 with
    | nil =>
      have := congrArg List.length h1
      have := congrArg List.length h2
      simp at *
      omega
    | cons b r2 =>
      have ha : el l d1.length = some a := by simp [h1]
      have hb2 : el r d1.length = some b := by rw [hd]; simp [h2]
      have hlt : d1.length < r.length := by rw [hd]; simp [h2]
      have hi := ihc a (by simp [h1]) b
      have hw : IntKind.i64.wrap ((d1.length : Int) + 1) = d1.length + 1 := IntWalk.i64_in _ (by omega)
      cases hab : a.beq b with
      | false =>
        have hf : (RT.mk k l).beq (.mk k r) = false := by rw [hb, h1, h2, RT.beqs_split hd]; simp [hab]
        (repeat (first | refine Wp.seq ?_ | refine Wp.block ?_ | refine Wp.skip ?_ | refine Wp.exit ?_ | refine Wp.ret ?_ | refine thenK_n ?_ | refine thenK_r ?_ | refine thenK_e ?_ | refine blockK_n ?_ | refine blockK_r ?_ | refine blockK_e ?_ | refine blockK_o (by decide) ?_ | (refine Wp.condT ?_ ?_; focus (simp -implicitDefEqProofs [ha, hb2, hlt, hi, hw, hab] <;> fail)) | (refine Wp.condF ?_ ?_; focus (simp -implicitDefEqProofs [ha, hb2, hlt, hi, hw, hab] <;> fail)) | refine Wp.reg (by simp -implicitDefEqProofs [ha, hb2, hlt, hi, hw, hab]; exact ⟨rfl, rfl⟩) ?_ | refine Wp.regA (by simp -implicitDefEqProofs [ha, hb2, hlt, hi, hw, hab]; exact ⟨rfl, rfl⟩) (by rfl) ?_))
        (apply endK_r; (focus (simp -implicitDefEqProofs [Tryz.f17, hf]; try rfl)); (focus (intro g; simp -implicitDefEqProofs [Tryz.f17, hf])); exact ⟨_, rfl⟩)
      | true =>
        (repeat (first | refine Wp.seq ?_ | refine Wp.block ?_ | refine Wp.skip ?_ | refine Wp.exit ?_ | refine Wp.ret ?_ | refine thenK_n ?_ | refine thenK_r ?_ | refine thenK_e ?_ | refine blockK_n ?_ | refine blockK_r ?_ | refine blockK_e ?_ | refine blockK_o (by decide) ?_ | (refine Wp.condT ?_ ?_; focus (simp -implicitDefEqProofs [ha, hb2, hlt, hi, hw, hab] <;> fail)) | (refine Wp.condF ?_ ?_; focus (simp -implicitDefEqProofs [ha, hb2, hlt, hi, hw, hab] <;> fail)) | refine Wp.reg (by simp -implicitDefEqProofs [ha, hb2, hlt, hi, hw, hab]; exact ⟨rfl, rfl⟩) ?_ | refine Wp.regA (by simp -implicitDefEqProofs [ha, hb2, hlt, hi, hw, hab]; exact ⟨rfl, rfl⟩) (by rfl) ?_))
        refine ⟨by simp, ⟨_, by simp -implicitDefEqProofs; rfl⟩, r1.length, by simp, d1 ++ [a], r1, d2 ++ [b], r2, by simp [h1], by simp [h2], by simp [hd], rfl, by simp, by rw [RT.beqs_split hd]; simp [hbs, hab, RT.beqs]⟩
theorem same1_c {k m : Int} {ts us : List RT} (ht : (RT.mk k ts).nodes ≤ 1000000000) (g : Nat) (S : St) (o1 o2 : Own) : callT (X.at g) (den X E) S 17 [.agg [.int .i64 k, .sl (List.map RT.cells ts) o1], .agg [.int .i64 m, .sl (List.map RT.cells us) o2]] = some (.bool ((RT.mk k ts).beq (.mk m us)), S) := by
  simpa using call_up (cf := X.at g) (fn := Tryz.f17) (args' := [.agg [.int .i64 k, .sl (List.map RT.cells ts) o1], .agg [.int .i64 m, .sl (List.map RT.cells us) o2]]) (by kernel_rfl) (by simp) (by simp; try rfl) (same1 (.mk k ts) (.mk m us) ht) S
theorem Ty.raw_beq (s u : Ty) : s.raw.beq u.raw = decide (s = u) := by
  rw [Bool.eq_iff_iff, RT.beq_iff, decide_eq_true_eq]
  exact ⟨fun h => Ty.raw_inj h, fun h => by rw [h]⟩
end M
end Go.Proofs.YthclcchnodjjpaaGreatDoor
/- make.vars, longer, App, Context; ref05.numeral, Number, make.Num. -/
set_option linter.unusedVariables false
set_option linter.unusedSimpArgs false
set_option maxRecDepth 10000
set_option maxHeartbeats 4000000
namespace Go.Proofs.YthclcchnodjjpaaGreatDoor
namespace M
attribute [local irreducible] Wp thenK blockK endK
variable {E : Oracle}
open T (Ty Tm noTy)
/-- The variables of a type in a context (the last one is 0). -/
def isAt (g : List Ty) (t : Ty) (i : Nat) : Bool := decide (g.reverse[i]? = some t)
def varsOf (g : List Ty) (t : Ty) : List Nat := (List.range g.length).filter (isAt g t)
def ik (n : Nat) : List AV := [.int .i64 n]
@[simp] theorem ik_eq (n : Nat) : ik n = [.int .i64 n] := rfl
@[simp] theorem ik_clean (g : Nat → Nat → AV) : List.map (mapLoc g) ∘ ik = ik := by funext n; simp
@[simp] theorem ik_dd : List.map dd ∘ ik = ik := ik_clean _
theorem vars1 (g : List Ty) (t : Ty) (hg : g.length ≤ 1000) (hs : ∀ s ∈ g, s.size ≤ 64) : den X E 49 [.sl (g.map (RT.cells ∘ Ty.raw)) .dead, t.raw.enc] [] = some (.sl ((varsOf g t).map ik) .dead, []) := by
  have hc := fun s (hs' : s ∈ g) => same1_c (E := E) (k := s.raw.k) (m := t.raw.k) (ts := s.raw.as) (us := t.raw.as) (by have := hs s hs'; simp [Ty.raw_nodes]; omega)
  simp only [RT.eta, Ty.raw_beq] at hc
  have hw1 : IntKind.i64.wrap ((g.length : Int) - 1) = g.length - 1 := IntWalk.i64_in _ (by omega)
  refine den_w0 (fn := Tryz.f49) (by rfl) (by rfl) (by kernel_rfl) rfl (by rfl) ?_
  simp -implicitDefEqProofs
  (repeat (first | refine Wp.seq ?_ | refine Wp.block ?_ | refine Wp.skip ?_ | refine Wp.exit ?_ | refine Wp.ret ?_ | refine thenK_n ?_ | refine thenK_r ?_ | refine thenK_e ?_ | refine blockK_n ?_ | refine blockK_r ?_ | refine blockK_e ?_ | refine blockK_o (by decide) ?_ | (refine Wp.condT ?_ ?_; focus (simp -implicitDefEqProofs <;> fail)) | (refine Wp.condF ?_ ?_; focus (simp -implicitDefEqProofs <;> fail)) | refine Wp.reg (by simp -implicitDefEqProofs; exact ⟨rfl, rfl⟩) ?_ | refine Wp.regA (by simp -implicitDefEqProofs; exact ⟨rfl, rfl⟩) (by rfl) ?_))
  refine Wp.loopF [5, 6, 9, 10, 11, 12, 13, 14, 15, 16, 17, 18, 19, 20, 21, 22, 23, 24, 25, 26] [] (fun n w c tk => ∃ j o, n = g.length - j ∧ j ≤ g.length ∧ w 9 = .int .i64 j ∧ w 5 = .sl (((List.range j).filter (isAt g t)).map ik) o ∧ Can tk (((List.range j).filter (isAt g t)).map ik) o) (g.length) ?_ ?_ ?_ ?_
  · rfl
  · rfl
  · exact ⟨0, .full, by simp, by omega, rfl, rfl, trivial⟩
  rintro n w c junk tk r σ ⟨j, o, rfl, hj, h9, h5, hcan⟩ hr hσ
  simp -implicitDefEqProofs [h9, h5] at hr hσ
  subst hr hσ
  by_cases hjl : j < g.length
  rotate_left
  · have hje : j = g.length := by omega
    subst hje
    (repeat (first | refine Wp.seq ?_ | refine Wp.block ?_ | refine Wp.skip ?_ | refine Wp.exit ?_ | refine Wp.ret ?_ | refine thenK_n ?_ | refine thenK_r ?_ | refine thenK_e ?_ | refine blockK_n ?_ | refine blockK_r ?_ | refine blockK_e ?_ | refine blockK_o (by decide) ?_ | (refine Wp.condT ?_ ?_; focus (simp -implicitDefEqProofs <;> fail)) | (refine Wp.condF ?_ ?_; focus (simp -implicitDefEqProofs <;> fail)) | refine Wp.reg (by simp -implicitDefEqProofs; exact ⟨rfl, rfl⟩) ?_ | refine Wp.regA (by simp -implicitDefEqProofs; exact ⟨rfl, rfl⟩) (by rfl) ?_))
    (apply endK_r; (focus (simp -implicitDefEqProofs [Tryz.f49, varsOf]; try rfl)); (focus (intro g; simp -implicitDefEqProofs [Tryz.f49, varsOf])); exact ⟨_, rfl⟩)
  have hidx : ((g.length : Int) - 1 - j).toNat = g.length - 1 - j := by omega
  have hge : (j : Int) ≤ (g.length : Int) - 1 := by omega
  have hw : IntKind.i64.wrap ((j : Int) + 1) = j + 1 := IntWalk.i64_in _ (by omega)
  have hw2 : IntKind.i64.wrap ((g.length : Int) - 1 - j) = (g.length : Int) - 1 - j := IntWalk.i64_in _ (by omega)
  obtain ⟨s, hsel⟩ : ∃ s, g[g.length - 1 - j]? = some s := ⟨_, List.getElem?_eq_getElem (by omega)⟩
  have hel : el g (g.length - 1 - j) = some s := hsel
  have hmem : s ∈ g := List.mem_of_getElem? hsel
  have hP : isAt g t j = decide (s = t) := by
    unfold isAt
    rw [List.getElem?_reverse hjl, hsel]
    simp
  have hi := hc s hmem
  have hrs : (List.range (j + 1)).filter (isAt g t) = (List.range j).filter (isAt g t) ++ if s = t then [j] else [] := by
    rw [List.range_succ, List.filter_append]
    by_cases hst : s = t <;> simp [hP, hst]
  by_cases hst : s = t
  · have hlen : ((List.range j).filter (isAt g t)).length ≤ j := by have := List.length_filter_le (isAt g t) (List.range j); simpa using this
    obtain ⟨o', tk', happ, hcan'⟩ := can_app hcan 1 (by decide) (by intro c hc; obtain ⟨x, _, rfl⟩ := List.mem_map.1 hc; rfl) (by simp; omega)
    simp only [hst, decide_true] at hi
    rw [if_pos hst] at hrs
    (repeat (first | refine Wp.seq ?_ | refine Wp.block ?_ | refine Wp.skip ?_ | refine Wp.exit ?_ | refine Wp.ret ?_ | refine thenK_n ?_ | refine thenK_r ?_ | refine thenK_e ?_ | refine blockK_n ?_ | refine blockK_r ?_ | refine blockK_e ?_ | refine blockK_o (by decide) ?_ | (refine Wp.condT ?_ ?_; focus (simp -implicitDefEqProofs [hjl, hw1, hw2, hidx, hge, hel, hst, hi, hw, happ] <;> fail)) | (refine Wp.condF ?_ ?_; focus (simp -implicitDefEqProofs [hjl, hw1, hw2, hidx, hge, hel, hst, hi, hw, happ] <;> fail)) | refine Wp.reg (by simp -implicitDefEqProofs [hjl, hw1, hw2, hidx, hge, hel, hst, hi, hw, happ]; exact ⟨rfl, rfl⟩) ?_ | refine Wp.regA (by simp -implicitDefEqProofs [hjl, hw1, hw2, hidx, hge, hel, hst, hi, hw, happ]; exact ⟨rfl, rfl⟩) (by rfl) ?_))
    refine ⟨by simp, ⟨_, by simp -implicitDefEqProofs; rfl⟩, g.length - (j + 1), by omega, j + 1, o', rfl, by omega, by simp, by simp [hrs], by rw [hrs]; simpa using hcan' _⟩
  · simp only [hst, decide_false] at hi
    rw [if_neg hst, List.append_nil] at hrs
    (repeat (first | refine Wp.seq ?_ | refine Wp.block ?_ | refine Wp.skip ?_ | refine Wp.exit ?_ | refine Wp.ret ?_ | refine thenK_n ?_ | refine thenK_r ?_ | refine thenK_e ?_ | refine blockK_n ?_ | refine blockK_r ?_ | refine blockK_e ?_ | refine blockK_o (by decide) ?_ | (refine Wp.condT ?_ ?_; focus (simp -implicitDefEqProofs [hjl, hw1, hw2, hidx, hge, hel, hi, hw] <;> fail)) | (refine Wp.condF ?_ ?_; focus (simp -implicitDefEqProofs [hjl, hw1, hw2, hidx, hge, hel, hi, hw] <;> fail)) | refine Wp.reg (by simp -implicitDefEqProofs [hjl, hw1, hw2, hidx, hge, hel, hi, hw]; exact ⟨rfl, rfl⟩) ?_ | refine Wp.regA (by simp -implicitDefEqProofs [hjl, hw1, hw2, hidx, hge, hel, hi, hw]; exact ⟨rfl, rfl⟩) (by rfl) ?_))
    refine ⟨by simp, ⟨_, by simp -implicitDefEqProofs; rfl⟩, g.length - (j + 1), by omega, j + 1, o, rfl, by omega, by simp, by simp [hrs], by rw [hrs]; exact hcan⟩
theorem vars1_c {g' : List Ty} {t : Ty} (hg : g'.length ≤ 1000) (hs : ∀ s ∈ g', s.size ≤ 64) (g : Nat) (S : St) (o1 o2 : Own) : callT (X.at g) (den X E) S 49 [.sl (g'.map (RT.cells ∘ Ty.raw)) o1, .agg [.int .i64 t.raw.k, .sl (List.map RT.cells t.raw.as) o2]] = some (.sl ((varsOf g' t).map ik) .dead, S) := by
  simpa using call_up (cf := X.at g) (fn := Tryz.f49) (args' := [.sl (g'.map (RT.cells ∘ Ty.raw)) o1, .agg [.int .i64 t.raw.k, .sl (List.map RT.cells t.raw.as) o2]]) (by kernel_rfl) (by simp) (by simp; try rfl) (vars1 g' t hg hs) S

theorem longer1 (g h : List Ty) (hg : g.length + h.length ≤ 1000) : den X E 53 [.sl (g.map (RT.cells ∘ Ty.raw)) .dead, .sl (h.map (RT.cells ∘ Ty.raw)) .dead] [] = some (.sl ((g ++ h).map (RT.cells ∘ Ty.raw)) .dead, []) := by
  obtain ⟨o1, tk1, a1, k1⟩ := can_apps (tk := []) (es := []) (o := .full) trivial (g.map (RT.cells ∘ Ty.raw)) 2 (by decide) (by simp) (by simp) (by simp; omega)
  obtain ⟨o2, tk2, a2, k2⟩ := can_apps k1 (h.map (RT.cells ∘ Ty.raw)) 2 (by decide) (by simp) (by simp) (by simp; omega)
  simp only [List.nil_append] at a1 a2
  refine den_w0 (fn := Tryz.f53) (by rfl) (by rfl) (by kernel_rfl) rfl (by rfl) ?_
  simp -implicitDefEqProofs
  (repeat (first | refine Wp.seq ?_ | refine Wp.block ?_ | refine Wp.skip ?_ | refine Wp.exit ?_ | refine Wp.ret ?_ | refine thenK_n ?_ | refine thenK_r ?_ | refine thenK_e ?_ | refine blockK_n ?_ | refine blockK_r ?_ | refine blockK_e ?_ | refine blockK_o (by decide) ?_ | (refine Wp.condT ?_ ?_; focus (simp -implicitDefEqProofs [a1, a2, -append_full] <;> fail)) | (refine Wp.condF ?_ ?_; focus (simp -implicitDefEqProofs [a1, a2, -append_full] <;> fail)) | refine Wp.reg (by simp -implicitDefEqProofs [a1, a2, -append_full]; exact ⟨rfl, rfl⟩) ?_ | refine Wp.regA (by simp -implicitDefEqProofs [a1, a2, -append_full]; exact ⟨rfl, rfl⟩) (by rfl) ?_))
  (apply endK_r; (focus (simp -implicitDefEqProofs [Tryz.f53]; try rfl)); (focus (intro g; simp -implicitDefEqProofs [Tryz.f53])); exact ⟨_, rfl⟩)
theorem longer1_c {g' h : List Ty} (hg : g'.length + h.length ≤ 1000) (g : Nat) (S : St) (o1 o2 : Own) : callT (X.at g) (den X E) S 53 [.sl (g'.map (RT.cells ∘ Ty.raw)) o1, .sl (h.map (RT.cells ∘ Ty.raw)) o2] = some (.sl ((g' ++ h).map (RT.cells ∘ Ty.raw)) .dead, S) := by
  simpa using call_up (cf := X.at g) (fn := Tryz.f53) (args' := [.sl (g'.map (RT.cells ∘ Ty.raw)) o1, .sl (h.map (RT.cells ∘ Ty.raw)) o2]) (by kernel_rfl) (by simp) (by simp; try rfl) (longer1 g' h hg) S

/-- A term applied to terms. -/
def RM.app (f : RM) (l : List RM) : RM := l.foldl (fun f a => .mk 3 0 noTy [f, a]) f
theorem RM.app_snoc (f a : RM) (l : List RM) : f.app (l ++ [a]) = .mk 3 0 noTy [f.app l, a] := by simp [RM.app, List.foldl_append]
theorem RM.app_nodes (f : RM) (l : List RM) : (f.app l).nodes = f.nodes + 2 * l.length + (l.map RM.nodes).sum := by
  induction l generalizing f with
  | nil => simp [RM.app]
  | cons a l ih =>
    have : f.app (a :: l) = (RM.mk 3 0 noTy [f, a]).app l := rfl
    rw [this, ih]
    simp [RM.nodes_mk, RT.nodes_mk, noTy]
    omega
theorem app1 (f : RM) (l : List RM) (hb : f.nodes + 2 * l.length + (l.map RM.nodes).sum ≤ 1000000000) : den X E 54 [f.enc, .sl (l.map RM.cells) .dead] [] = some ((f.app l).enc, []) := by
  refine den_w0 (fn := Tryz.f54) (by rfl) (by rfl) (by kernel_rfl) rfl (by rfl) ?_
  simp -implicitDefEqProofs
  (repeat (first | refine Wp.seq ?_ | refine Wp.block ?_ | refine Wp.skip ?_ | refine Wp.exit ?_ | refine Wp.ret ?_ | refine thenK_n ?_ | refine thenK_r ?_ | refine thenK_e ?_ | refine blockK_n ?_ | refine blockK_r ?_ | refine blockK_e ?_ | refine blockK_o (by decide) ?_ | (refine Wp.condT ?_ ?_; focus (simp -implicitDefEqProofs <;> fail)) | (refine Wp.condF ?_ ?_; focus (simp -implicitDefEqProofs <;> fail)) | refine Wp.reg (by simp -implicitDefEqProofs; exact ⟨rfl, rfl⟩) ?_ | refine Wp.regA (by simp -implicitDefEqProofs; exact ⟨rfl, rfl⟩) (by rfl) ?_))
  refine Wp.loopF [6, 9, 10, 11, 12, 13, 14, 15, 16, 17] [0] (fun n w c tk => ∃ done rest, l = done ++ rest ∧ n = rest.length ∧ w 9 = .int .i64 done.length ∧ c 0 = (f.app done).cells) (l.length) ?_ ?_ ?_ ?_
  · rfl
  · rfl
  · exact ⟨[], l, by simp, rfl, rfl, by simp [RM.app]⟩
  rintro n w c junk tk r σ ⟨done, rest, hl, rfl, h9, h0⟩ hr hσ
  simp -implicitDefEqProofs [h9, h0] at hr hσ
  subst hr hσ
  cases rest with
  | nil =>
    simp at hl
    subst hl
    (repeat (first | refine Wp.seq ?_ | refine Wp.block ?_ | refine Wp.skip ?_ | refine Wp.exit ?_ | refine Wp.ret ?_ | refine thenK_n ?_ | refine thenK_r ?_ | refine thenK_e ?_ | refine blockK_n ?_ | refine blockK_r ?_ | refine blockK_e ?_ | refine blockK_o (by decide) ?_ | (refine Wp.condT ?_ ?_; focus (simp -implicitDefEqProofs <;> fail)) | (refine Wp.condF ?_ ?_; focus (simp -implicitDefEqProofs <;> fail)) | refine Wp.reg (by simp -implicitDefEqProofs; exact ⟨rfl, rfl⟩) ?_ | refine Wp.regA (by simp -implicitDefEqProofs; exact ⟨rfl, rfl⟩) (by rfl) ?_))
    (apply endK_r; (focus (simp -implicitDefEqProofs [Tryz.f54]; try rfl)); (focus (intro g; simp -implicitDefEqProofs [Tryz.f54])); exact ⟨_, rfl⟩)
  | cons a rest =>
    have ha : el l done.length = some a := by simp [hl]
    have hlt : done.length < l.length := by simp [hl]
    have hw : IntKind.i64.wrap ((done.length : Int) + 1) = done.length + 1 := IntWalk.i64_in _ (by omega)
    have hnd := f.app_nodes done
    have hsum : (l.map RM.nodes).sum = (done.map RM.nodes).sum + a.nodes + (rest.map RM.nodes).sum := by rw [hl]; simp; omega
    have c1 := node2_c (E := E) (k := 3) (l := [f.app done, a]) (by intro x hx; simp at hx; rcases hx with rfl | rfl <;> omega) (by simp)
    simp at c1
    have hs := f.app_snoc a done
    simp [noTy] at hs
    (repeat (first | refine Wp.seq ?_ | refine Wp.block ?_ | refine Wp.skip ?_ | refine Wp.exit ?_ | refine Wp.ret ?_ | refine thenK_n ?_ | refine thenK_r ?_ | refine thenK_e ?_ | refine blockK_n ?_ | refine blockK_r ?_ | refine blockK_e ?_ | refine blockK_o (by decide) ?_ | (refine Wp.condT ?_ ?_; focus (simp -implicitDefEqProofs [ha, hlt, hw, c1] <;> fail)) | (refine Wp.condF ?_ ?_; focus (simp -implicitDefEqProofs [ha, hlt, hw, c1] <;> fail)) | refine Wp.reg (by simp -implicitDefEqProofs [ha, hlt, hw, c1]; exact ⟨rfl, rfl⟩) ?_ | refine Wp.regA (by simp -implicitDefEqProofs [ha, hlt, hw, c1]; exact ⟨rfl, rfl⟩) (by rfl) ?_))
    refine ⟨by simp, ⟨_, by simp -implicitDefEqProofs; rfl⟩, rest.length, by simp, done ++ [a], rest, by simp [hl], rfl, by simp, by simp [hs]⟩
theorem app1_c {k i m : Int} {us : List RT} {ts l : List RM} (hb : (RM.mk k i (.mk m us) ts).nodes + 2 * l.length + (l.map RM.nodes).sum ≤ 1000000000) (g : Nat) (S : St) (o1 o2 o3 : Own) : callT (X.at g) (den X E) S 54 [.agg [.int .i64 k, .int .i64 i, .int .i64 m, .sl (List.map RT.cells us) o1, .sl (List.map RM.cells ts) o2], .sl (l.map RM.cells) o3] = some (.agg [.int .i64 ((RM.mk k i (.mk m us) ts).app l).k, .int .i64 ((RM.mk k i (.mk m us) ts).app l).i, .int .i64 ((RM.mk k i (.mk m us) ts).app l).ty.k, .sl (List.map RT.cells ((RM.mk k i (.mk m us) ts).app l).ty.as) .dead, .sl (List.map RM.cells ((RM.mk k i (.mk m us) ts).app l).as) .dead], S) := by
  simpa using call_up (cf := X.at g) (fn := Tryz.f54) (args' := [.agg [.int .i64 k, .int .i64 i, .int .i64 m, .sl (List.map RT.cells us) o1, .sl (List.map RM.cells ts) o2], .sl (l.map RM.cells) o3]) (by kernel_rfl) (by simp) (by simp; try rfl) (app1 (RM.mk k i (.mk m us) ts) l hb) S

theorem num_raw (n : Nat) : (T.num (n + 1)).raw = .mk 5 0 noTy [(T.num n).raw] := rfl
theorem numeral1 (q : Nat) (hq : q ≤ 1000000000) : den X E 111 [.int .i64 q] [] = some ((T.num q).raw.enc, []) := by
  have c1 := node2_c (E := E) (k := 4) (l := []) (by simp) (by simp)
  simp at c1
  refine den_w0 (fn := Tryz.f111) (by rfl) (by rfl) (by kernel_rfl) rfl (by rfl) ?_
  simp -implicitDefEqProofs
  (repeat (first | refine Wp.seq ?_ | refine Wp.block ?_ | refine Wp.skip ?_ | refine Wp.exit ?_ | refine Wp.ret ?_ | refine thenK_n ?_ | refine thenK_r ?_ | refine thenK_e ?_ | refine blockK_n ?_ | refine blockK_r ?_ | refine blockK_e ?_ | refine blockK_o (by decide) ?_ | (refine Wp.condT ?_ ?_; focus (simp -implicitDefEqProofs [c1] <;> fail)) | (refine Wp.condF ?_ ?_; focus (simp -implicitDefEqProofs [c1] <;> fail)) | refine Wp.reg (by simp -implicitDefEqProofs [c1]; exact ⟨rfl, rfl⟩) ?_ | refine Wp.regA (by simp -implicitDefEqProofs [c1]; exact ⟨rfl, rfl⟩) (by rfl) ?_))
  refine Wp.loopF [0, 5, 6, 7, 8, 9, 10, 11] [1] (fun n w c tk => ∃ j x y o o', j + n = q ∧ w 0 = .int .i64 n ∧ c 1 = [.int .i64 (T.num j).raw.k, .int .i64 0, .int .i64 0, .sl x o, .sl y o'] ∧ (∀ g, x.map (List.map (mapLoc g)) = []) ∧ ∀ g, y.map (List.map (mapLoc g)) = (T.num j).raw.as.map RM.cells) (q) ?_ ?_ ?_ ?_
  · rfl
  · rfl
  · exact ⟨0, [], [], .dead, .dead, by simp, rfl, rfl, by simp, by simp [T.num, Tm.raw]⟩
  rintro n w c junk tk r σ ⟨j, x, y, o, o', hj, h0, h1, hx, hy⟩ hr hσ
  simp -implicitDefEqProofs [h0, h1] at hr hσ
  subst hr hσ
  have hx0 : x = [] := by have := hx (fun _ _ => .undef); simpa using this
  subst hx0
  cases n with
  | zero =>
    have hjq : j = q := by omega
    subst hjq
    have hi0 : (T.num j).raw.i = 0 ∧ (T.num j).raw.ty = noTy := by cases j <;> exact ⟨rfl, rfl⟩
    (repeat (first | refine Wp.seq ?_ | refine Wp.block ?_ | refine Wp.skip ?_ | refine Wp.exit ?_ | refine Wp.ret ?_ | refine thenK_n ?_ | refine thenK_r ?_ | refine thenK_e ?_ | refine blockK_n ?_ | refine blockK_r ?_ | refine blockK_e ?_ | refine blockK_o (by decide) ?_ | (refine Wp.condT ?_ ?_; focus (simp -implicitDefEqProofs <;> fail)) | (refine Wp.condF ?_ ?_; focus (simp -implicitDefEqProofs <;> fail)) | refine Wp.reg (by simp -implicitDefEqProofs; exact ⟨rfl, rfl⟩) ?_ | refine Wp.regA (by simp -implicitDefEqProofs; exact ⟨rfl, rfl⟩) (by rfl) ?_))
    (apply endK_r; (focus (simp -implicitDefEqProofs [Tryz.f111, hy, hi0.1, hi0.2, noTy]; try rfl)); (focus (intro g; simp -implicitDefEqProofs [Tryz.f111, hy, hi0.1, hi0.2, noTy])); exact ⟨_, rfl⟩)
  | succ n =>
    have hp : (0 : Int) < (n : Int) + 1 := by omega
    have hw : IntKind.i64.wrap (n : Int) = n := IntWalk.i64_in _ (by omega)
    have hi0 : (T.num j).raw.i = 0 ∧ (T.num j).raw.ty = noTy := by cases j <;> exact ⟨rfl, rfl⟩
    (repeat (first | refine Wp.seq ?_ | refine Wp.block ?_ | refine Wp.skip ?_ | refine Wp.exit ?_ | refine Wp.ret ?_ | refine thenK_n ?_ | refine thenK_r ?_ | refine thenK_e ?_ | refine blockK_n ?_ | refine blockK_r ?_ | refine blockK_e ?_ | refine blockK_o (by decide) ?_ | (refine Wp.condT ?_ ?_; focus (simp -implicitDefEqProofs [hp, hw] <;> fail)) | (refine Wp.condF ?_ ?_; focus (simp -implicitDefEqProofs [hp, hw] <;> fail)) | refine Wp.reg (by simp -implicitDefEqProofs [hp, hw]; exact ⟨rfl, rfl⟩) ?_ | refine Wp.regA (by simp -implicitDefEqProofs [hp, hw]; exact ⟨rfl, rfl⟩) (by rfl) ?_))
    refine ⟨by simp, ⟨_, by simp -implicitDefEqProofs; rfl⟩, n, by omega, j + 1, [], [[.int .i64 (T.num j).raw.k, .int .i64 0, .int .i64 0, .sl [] o, .sl y o']], .full, .full, by omega, by simp, by simp [num_raw], by simp, by intro g; simp [num_raw, hy, hi0.1, hi0.2, noTy]⟩
theorem numeral1_c {q : Nat} (hq : q ≤ 1000000000) (g : Nat) (S : St)  : callT (X.at g) (den X E) S 111 [.int .i64 q] = some (.agg [.int .i64 (T.num q).raw.k, .int .i64 (T.num q).raw.i, .int .i64 (T.num q).raw.ty.k, .sl (List.map RT.cells (T.num q).raw.ty.as) .dead, .sl (List.map RM.cells (T.num q).raw.as) .dead], S) := by
  simpa using call_up (cf := X.at g) (fn := Tryz.f111) (args' := [.int .i64 q]) (by kernel_rfl) (by simp) (by simp; try rfl) (numeral1 q hq) S
theorem number1 (q : Nat) (hq : q < 4096) : den X E 85 [.int .i64 q] [] = some (.tup [(T.num q).raw.enc, .int .i64 0], []) := by
  have c1 := numeral1_c (E := E) (q := q) (by omega)
  have h1 : ¬ (q : Int) < 0 := by omega
  have h2 : ¬ (4096 : Int) ≤ q := by omega
  refine den_w0 (fn := Tryz.f85) (by rfl) (by rfl) (by kernel_rfl) rfl (by rfl) ?_
  simp -implicitDefEqProofs
  (repeat (first | refine Wp.seq ?_ | refine Wp.block ?_ | refine Wp.skip ?_ | refine Wp.exit ?_ | refine Wp.ret ?_ | refine thenK_n ?_ | refine thenK_r ?_ | refine thenK_e ?_ | refine blockK_n ?_ | refine blockK_r ?_ | refine blockK_e ?_ | refine blockK_o (by decide) ?_ | (refine Wp.condT ?_ ?_; focus (simp -implicitDefEqProofs [c1, h1, h2] <;> fail)) | (refine Wp.condF ?_ ?_; focus (simp -implicitDefEqProofs [c1, h1, h2] <;> fail)) | refine Wp.reg (by simp -implicitDefEqProofs [c1, h1, h2]; exact ⟨rfl, rfl⟩) ?_ | refine Wp.regA (by simp -implicitDefEqProofs [c1, h1, h2]; exact ⟨rfl, rfl⟩) (by rfl) ?_))
  (apply endK_r; (focus (simp -implicitDefEqProofs [Tryz.f85]; try rfl)); (focus (intro g; simp -implicitDefEqProofs [Tryz.f85])); exact ⟨_, rfl⟩)
theorem number1_c {q : Nat} (hq : q < 4096) (g : Nat) (S : St)  : callT (X.at g) (den X E) S 85 [.int .i64 q] = some (.tup [.agg [.int .i64 (T.num q).raw.k, .int .i64 (T.num q).raw.i, .int .i64 (T.num q).raw.ty.k, .sl (List.map RT.cells (T.num q).raw.ty.as) .dead, .sl (List.map RM.cells (T.num q).raw.as) .dead], .int .i64 0], S) := by
  simpa using call_up (cf := X.at g) (fn := Tryz.f85) (args' := [.int .i64 q]) (by kernel_rfl) (by simp) (by simp; try rfl) (number1 q hq) S
theorem mkNum (q : Nat) (hq : q < 4096) : den X E 30 [.int .i64 q] [] = some ((T.num q).raw.enc, []) := by
  have c1 := number1_c (E := E) (q := q) hq
  refine den_w0 (fn := Tryz.f30) (by rfl) (by rfl) (by kernel_rfl) rfl (by rfl) ?_
  simp -implicitDefEqProofs
  (repeat (first | refine Wp.seq ?_ | refine Wp.block ?_ | refine Wp.skip ?_ | refine Wp.exit ?_ | refine Wp.ret ?_ | refine thenK_n ?_ | refine thenK_r ?_ | refine thenK_e ?_ | refine blockK_n ?_ | refine blockK_r ?_ | refine blockK_e ?_ | refine blockK_o (by decide) ?_ | (refine Wp.condT ?_ ?_; focus (simp -implicitDefEqProofs [c1] <;> fail)) | (refine Wp.condF ?_ ?_; focus (simp -implicitDefEqProofs [c1] <;> fail)) | refine Wp.reg (by simp -implicitDefEqProofs [c1]; exact ⟨rfl, rfl⟩) ?_ | refine Wp.regA (by simp -implicitDefEqProofs [c1]; exact ⟨rfl, rfl⟩) (by rfl) ?_))
  (apply endK_r; (focus (simp -implicitDefEqProofs [Tryz.f30]; try rfl)); (focus (intro g; simp -implicitDefEqProofs [Tryz.f30])); exact ⟨_, rfl⟩)
theorem mkNum_c {q : Nat} (hq : q < 4096) (g : Nat) (S : St)  : callT (X.at g) (den X E) S 30 [.int .i64 q] = some (.agg [.int .i64 (T.num q).raw.k, .int .i64 (T.num q).raw.i, .int .i64 (T.num q).raw.ty.k, .sl (List.map RT.cells (T.num q).raw.ty.as) .dead, .sl (List.map RM.cells (T.num q).raw.as) .dead], S) := by
  simpa using call_up (cf := X.at g) (fn := Tryz.f30) (args' := [.int .i64 q]) (by kernel_rfl) (by simp) (by simp; try rfl) (mkNum q hq) S

/-- A short context. -/
def ctxP (zs : List Int) : Nat → Nat → List Ty × Nat
  | 0, i => ([], i)
  | k + 1, i => let a := typeP zs 1 i; let b := ctxP zs k a.2; (a.1 :: b.1, b.2)
def contextP (zs : List Int) (i : Nat) : List Ty × Nat := let p := nextP zs i 4; ctxP zs p.1.toNat p.2
end M
end Go.Proofs.YthclcchnodjjpaaGreatDoor
/- make.Context. -/
set_option linter.unusedVariables false
set_option linter.unusedSimpArgs false
set_option maxRecDepth 10000
set_option maxHeartbeats 4000000
namespace Go.Proofs.YthclcchnodjjpaaGreatDoor
namespace M
attribute [local irreducible] Wp thenK blockK endK
variable {E : Oracle}
open T (Ty Tm noTy)
theorem ctxP_le {zs : List Int} : ∀ (k : Nat) {i : Nat}, i ≤ zs.length → (ctxP zs k i).2 ≤ zs.length
  | 0, i, h => h
  | k + 1, i, h => ctxP_le k (typeP_le 1 h)
theorem ctxP_len (zs : List Int) : ∀ (k i : Nat), (ctxP zs k i).1.length = k
  | 0, i => rfl
  | k + 1, i => by simp [ctxP, ctxP_len zs k]
theorem ctxP_size (zs : List Int) : ∀ (k i : Nat), ∀ s ∈ (ctxP zs k i).1, s.size < 4
  | 0, i, s, h => by simp [ctxP] at h
  | k + 1, i, s, h => by
    simp only [ctxP, List.mem_cons] at h
    rcases h with rfl | h
    · exact typeP_size zs 1 i
    · exact ctxP_size zs k _ s h
theorem mkContext (zs : List Int) (hz : zs.length ≤ 1000000) (i : Nat) (hi : i ≤ zs.length) :
    den X E 11 [.loc 0 0] [deck zs i] = some (.sl ((contextP zs i).1.map (RT.cells ∘ Ty.raw)) .dead, [deck zs (contextP zs i).2]) := by
  obtain ⟨p, i1, hp⟩ : ∃ p i1, nextP zs i 4 = (p, i1) := ⟨_, _, rfl⟩
  obtain ⟨h0, h4, hi1⟩ := nextP_eq hp (by decide) hi
  obtain ⟨k, rfl⟩ : ∃ k : Nat, p = k := ⟨p.toNat, by omega⟩
  have c1 := next_c (E := E) zs i 4 (by decide) (by decide) hi hz
  simp only [hp] at c1
  have hcp : contextP zs i = ctxP zs k i1 := by simp [contextP, hp]
  rw [hcp]
  simp only [deck_eq]
  refine den_w (fn := Tryz.f11) (σ1 := [[.sl (zs.map ic) .dead, .int .i64 (ctxP zs k i1).2]]) (by rfl) (by rfl) (by kernel_rfl) rfl (by rfl) (by rfl) (by simp -implicitDefEqProofs) ?_
  simp -implicitDefEqProofs
  (repeat (first | refine Wp.seq ?_ | refine Wp.block ?_ | refine Wp.skip ?_ | refine Wp.exit ?_ | refine Wp.ret ?_ | refine thenK_n ?_ | refine thenK_r ?_ | refine thenK_e ?_ | refine blockK_n ?_ | refine blockK_r ?_ | refine blockK_e ?_ | refine blockK_o (by decide) ?_ | (refine Wp.condT ?_ ?_; focus (simp -implicitDefEqProofs [c1] <;> fail)) | (refine Wp.condF ?_ ?_; focus (simp -implicitDefEqProofs [c1] <;> fail)) | refine Wp.reg (by simp -implicitDefEqProofs [c1]; exact ⟨rfl, rfl⟩) ?_ | refine Wp.regA (by simp -implicitDefEqProofs [c1]; exact ⟨rfl, rfl⟩) (by rfl) ?_))
  refine Wp.loopF [3, 4, 7, 8, 9, 10, 11, 12, 13, 14, 15] [0] (fun n w c tk => ∃ done j o, w 4 = .int .i64 n ∧ w 3 = .sl (done.map (RT.cells ∘ Ty.raw)) o ∧ c 0 = deck zs j ∧ j ≤ zs.length ∧ done.length + n = k ∧ ctxP zs k i1 = (done ++ (ctxP zs n j).1, (ctxP zs n j).2) ∧ Can tk (done.map (RT.cells ∘ Ty.raw)) o) (k) ?_ ?_ ?_ ?_
  · rfl
  · rfl
  · exact ⟨[], i1, .full, rfl, rfl, rfl, hi1, by simp, by simp, trivial⟩
  rintro n w c junk tk r σ ⟨done, j, o, hw4, hw3, hc0, hj, hdn, heq, hcan⟩ hr hσ
  simp -implicitDefEqProofs [hw4, hw3, hc0] at hr hσ
  subst hr hσ
  cases n with
  | zero =>
    simp [ctxP] at heq
    rw [heq]
    (repeat (first | refine Wp.seq ?_ | refine Wp.block ?_ | refine Wp.skip ?_ | refine Wp.exit ?_ | refine Wp.ret ?_ | refine thenK_n ?_ | refine thenK_r ?_ | refine thenK_e ?_ | refine blockK_n ?_ | refine blockK_r ?_ | refine blockK_e ?_ | refine blockK_o (by decide) ?_ | (refine Wp.condT ?_ ?_; focus (simp -implicitDefEqProofs <;> fail)) | (refine Wp.condF ?_ ?_; focus (simp -implicitDefEqProofs <;> fail)) | refine Wp.reg (by simp -implicitDefEqProofs; exact ⟨rfl, rfl⟩) ?_ | refine Wp.regA (by simp -implicitDefEqProofs; exact ⟨rfl, rfl⟩) (by rfl) ?_))
    (apply endK_r; (focus (simp -implicitDefEqProofs [Tryz.f11]; try rfl)); (focus (intro g; simp -implicitDefEqProofs [Tryz.f11])); exact ⟨_, rfl⟩)
  | succ n =>
    have hpos : (0 : Int) < (n : Int) + 1 := by omega
    have hw : IntKind.i64.wrap (n : Int) = n := IntWalk.i64_in _ (by omega)
    obtain ⟨o', tk', happ, hcan'⟩ := can_app hcan 2 (by decide) (by simp) (by simp; omega)
    have c2 := mkType_c (E := E) zs hz 1 j (by decide) hj
    simp at c2
    (repeat (first | refine Wp.seq ?_ | refine Wp.block ?_ | refine Wp.skip ?_ | refine Wp.exit ?_ | refine Wp.ret ?_ | refine thenK_n ?_ | refine thenK_r ?_ | refine thenK_e ?_ | refine blockK_n ?_ | refine blockK_r ?_ | refine blockK_e ?_ | refine blockK_o (by decide) ?_ | (refine Wp.condT ?_ ?_; focus (simp -implicitDefEqProofs [hpos, hw, c2, happ] <;> fail)) | (refine Wp.condF ?_ ?_; focus (simp -implicitDefEqProofs [hpos, hw, c2, happ] <;> fail)) | refine Wp.reg (by simp -implicitDefEqProofs [hpos, hw, c2, happ]; exact ⟨rfl, rfl⟩) ?_ | refine Wp.regA (by simp -implicitDefEqProofs [hpos, hw, c2, happ]; exact ⟨rfl, rfl⟩) (by rfl) ?_))
    refine ⟨by simp, ⟨_, by simp -implicitDefEqProofs; rfl⟩, n, by omega, done ++ [(typeP zs 1 j).1], (typeP zs 1 j).2, o', by simp, by simp, by simp, typeP_le 1 hj, by simp; omega, by rw [heq]; simp [ctxP], by simpa using hcan' _⟩
theorem contextP_le {zs : List Int} {i : Nat} (hi : i ≤ zs.length) : (contextP zs i).2 ≤ zs.length := ctxP_le _ (nextP_le 4 hi)
theorem contextP_len (zs : List Int) (i : Nat) : (contextP zs i).1.length ≤ 3 := by
  have := nextP_range zs i (n := 4) (by decide)
  simp only [contextP, ctxP_len]
  omega
theorem contextP_size (zs : List Int) (i : Nat) : ∀ s ∈ (contextP zs i).1, s.size < 4 := ctxP_size zs _ _
theorem mkContext_c (zs : List Int) (hz : zs.length ≤ 1000000) (i : Nat) (hi : i ≤ zs.length) (g b : Nat) (S : St) (hS : sd S.σ b = some [.sl (zs.map ic) .dead, .int .i64 i]) :
    callT (X.at g) (den X E) S 11 [.loc b 0] = some (.sl ((contextP zs i).1.map (RT.cells ∘ Ty.raw)) .dead, { S with σ := S.σ.set b [.sl (zs.map ic) .dead, .int .i64 (contextP zs i).2] }) := by
  simpa using call_upD (cf := X.at g) (fn := Tryz.f11) (args' := []) (by kernel_rfl) rfl (by rfl) (by rfl) (by simp) (by simp) (by simp) (by simp) (mkContext zs hz i hi) S hS
end M
end Go.Proofs.YthclcchnodjjpaaGreatDoor
/- TERMS OUT OF A DECK: what make.Term makes (termP); that it has its type, that its types are small. -/
set_option linter.unusedVariables false
set_option linter.unusedSimpArgs false
namespace Go.Proofs.YthclcchnodjjpaaGreatDoor
namespace M
open T (Ty Tm)
/-- A variable of the type, if there is one and the deck wants it; else something else. -/
def withVar (zs : List Int) (g : List Ty) (t : Ty) (i : Nat) (k : Nat → Tm × Nat) : Tm × Nat :=
  if varsOf g t = [] then k i else
    let p := nextP zs i 3
    if 0 < p.1 then (let q := nextP zs p.2 (varsOf g t).length; (.var ((varsOf g t).getD q.1.toNat 0), q.2)) else k p.2
/-- Without depth. -/
def term0 (zs : List Int) : Ty → List Ty → Nat → Tm × Nat
  | .nat, g, i => withVar zs g .nat i fun i => let p := nextP zs i 3; (T.num p.1.toNat, p.2)
  | .list, g, i => withVar zs g .list i fun i => (.nil, i)
  | .unit, g, i => withVar zs g .unit i fun i => (.unit, i)
  | .pair a b, g, i => withVar zs g (.pair a b) i fun i => let x := term0 zs a g i; let y := term0 zs b g x.2; (.pair x.1 y.1, y.2)
  | .fn a b, g, i => withVar zs g (.fn a b) i fun i => let x := term0 zs b (g ++ [a]) i; (.lam a x.1, x.2)
/-- The first function of the context with this result: its place and its argument. -/
def findFn (g : List Ty) (t : Ty) : Option (Nat × Ty) := (List.range g.length).findSome? fun (j : Nat) => match g.reverse[j]? with
  | some (.fn a b) => if b = t then some (j, a) else none
  | _ => none
/-- The last part of make.Term, below some depth. -/
def tailP (zs : List Int) (f : Ty → List Ty → Nat → Tm × Nat) (t : Ty) (g : List Ty) (i : Nat) : Tm × Nat := match t with
  | .nat =>
    let p := nextP zs i 5
    if p.1 = 0 then (let x := f .nat g p.2; (.succ x.1, x.2))
    else if p.1 = 1 then (let x := f .nat g p.2; let y := f .nat g x.2; (.app (.app T.plus x.1) y.1, y.2))
    else if p.1 = 2 then (let x := f .nat g p.2; let y := f .nat g x.2; (.app (.app T.sub x.1) y.1, y.2))
    else (let q := nextP zs p.2 3; (T.num q.1.toNat, q.2))
  | .list =>
    let p := nextP zs i 2
    if p.1 = 0 then (let x := f .nat g p.2; let y := f .list g x.2; (.cons x.1 y.1, y.2)) else (.nil, p.2)
  | .unit => (.unit, i)
  | .pair a b => let x := f a g i; let y := f b g x.2; (.pair x.1 y.1, y.2)
  | .fn a b => let x := f b (g ++ [a]) i; (.lam a x.1, x.2)
/-- The middle part: with some depth. -/
def midP (zs : List Int) (f : Ty → List Ty → Nat → Tm × Nat) (t : Ty) (g : List Ty) (i : Nat) : Tm × Nat :=
  let c := nextP zs i 8
  if c.1 = 0 then (let s := typeP zs 0 c.2; let x := f t (g ++ [s.1]) s.2; let y := f s.1 g x.2; (.app (.lam s.1 x.1) y.1, y.2))
  else if c.1 = 1 then (let s := typeP zs 0 c.2; let x := f t g s.2; let y := f s.1 g x.2; (.fst (.pair x.1 y.1), y.2))
  else if c.1 = 2 then (let x := f t (g ++ [.nat, t]) c.2; let y := f t g x.2; let p := nextP zs y.2 3; (.recn t y.1 (.lam .nat (.lam t x.1)) (T.num p.1.toNat), p.2))
  else if c.1 = 3 then (let x := f t (g ++ [.nat, .list, t]) c.2; let y := f t g x.2; let l := f .list g y.2; (.fold t y.1 (.lam .nat (.lam .list (.lam t x.1))) l.1, l.2))
  else if c.1 = 4 then (let s := typeP zs 0 c.2; let x := f s.1 g s.2; let y := f t g x.2; (.snd (.pair x.1 y.1), y.2))
  else if c.1 = 5 then (match findFn g t with
    | some (j, a) => let x := f a g c.2; (.app (.var j) x.1, x.2)
    | none => tailP zs f t g c.2)
  else tailP zs f t g c.2
/-- The term that a deck makes. -/
def termP (zs : List Int) : Nat → Ty → List Ty → Nat → Tm × Nat
  | 0, t, g, i => term0 zs t g i
  | d + 1, t, g, i => withVar zs g t i fun i => midP zs (termP zs d) t g i

/-! ### It has its type -/
theorem look_rev {g : List Ty} {t : Ty} {j : Nat} (h : g.reverse[j]? = some t) : ∃ p, T.Look g.reverse j t p := T.look_of _ _ _ h
theorem varsOf_mem {g : List Ty} {t : Ty} {j : Nat} (h : j ∈ varsOf g t) : g.reverse[j]? = some t := by
  simp only [varsOf, List.mem_filter, isAt, decide_eq_true_eq] at h
  exact h.2
theorem getD_mem {l : List Nat} (h : l ≠ []) {q : Nat} (hq : q < l.length) : l.getD q 0 ∈ l := by
  simp only [List.getD, List.getElem?_eq_getElem hq, Option.getD_some]
  exact List.getElem_mem hq
/-- A good property of what is made stays good. -/
theorem withVar_ind {P : Tm × Nat → Prop} {zs : List Int} {g : List Ty} {t : Ty} {i : Nat} {k : Nat → Tm × Nat} (hi : i ≤ zs.length) (hv : ∀ j ∈ varsOf g t, ∀ i', i' ≤ zs.length → P (.var j, i')) (hk : ∀ i', i' ≤ zs.length → P (k i')) : P (withVar zs g t i k) := by
  unfold withVar
  split
  · exact hk i hi
  · rename_i hne
    have h1 := nextP_le 3 hi
    simp only
    split
    · have hl : 1 ≤ ((varsOf g t).length : Int) := by have := List.length_pos_iff.2 hne; omega
      have h2 := nextP_range zs (nextP zs i 3).2 hl
      exact hv _ (getD_mem hne (by omega)) _ (nextP_le _ h1)
    · exact hk _ h1
theorem findFn_some {g : List Ty} {t a : Ty} {j : Nat} (h : findFn g t = some (j, a)) : g.reverse[j]? = some (.fn a t) := by
  unfold findFn at h
  obtain ⟨j', _, h2⟩ := List.exists_of_findSome?_eq_some h
  revert h2
  cases hg : g.reverse[j']? with
  | none => intro h2; cases h2
  | some s =>
    cases s with
    | fn x y =>
      simp only
      intro h2
      split at h2
      · rename_i hyt
        cases h2
        rw [hg, hyt]
      · cases h2
    | _ => intro h2; cases h2
def HasTy (g : List Ty) (t : Ty) (p : Tm × Nat) : Prop := ∃ d, T.Sem g.reverse p.1 t d
theorem hasTy_var {g : List Ty} {t : Ty} {j i : Nat} (h : g.reverse[j]? = some t) : HasTy g t (.var j, i) := by
  obtain ⟨p, hp⟩ := look_rev h
  exact ⟨p, .var hp⟩
theorem hasTy_num (g : List Ty) (n i : Nat) : HasTy g .nat (T.num n, i) := ⟨_, T.sem_num _ n⟩
theorem tailP_ty {zs : List Int} {f : Ty → List Ty → Nat → Tm × Nat} (hf : ∀ t g i, HasTy g t (f t g i)) (t : Ty) (g : List Ty) (i : Nat) : HasTy g t (tailP zs f t g i) := by
  unfold tailP
  split
  · simp only
    split
    · obtain ⟨d, hd⟩ := hf .nat g (nextP zs i 5).2
      exact ⟨_, .succ hd⟩
    split
    · obtain ⟨d, hd⟩ := hf .nat g (nextP zs i 5).2
      obtain ⟨e, he⟩ := hf .nat g (f .nat g (nextP zs i 5).2).2
      exact ⟨_, .app (.app (T.sem_plus _) hd) he⟩
    split
    · obtain ⟨d, hd⟩ := hf .nat g (nextP zs i 5).2
      obtain ⟨e, he⟩ := hf .nat g (f .nat g (nextP zs i 5).2).2
      exact ⟨_, .app (.app (T.sem_sub _) hd) he⟩
    · exact hasTy_num _ _ _
  · simp only
    split
    · obtain ⟨d, hd⟩ := hf .nat g (nextP zs i 2).2
      obtain ⟨e, he⟩ := hf .list g (f .nat g (nextP zs i 2).2).2
      exact ⟨_, .cons hd he⟩
    · exact ⟨_, .nil⟩
  · exact ⟨_, .unit⟩
  · rename_i a b
    obtain ⟨d, hd⟩ := hf a g i
    obtain ⟨e, he⟩ := hf b g (f a g i).2
    exact ⟨_, .pair hd he⟩
  · rename_i a b
    have hx := hf b (g ++ [a]) i
    unfold HasTy at hx
    rw [List.reverse_append] at hx
    obtain ⟨d, hd⟩ := hx
    exact ⟨_, .lam hd⟩
theorem midP_ty {zs : List Int} {f : Ty → List Ty → Nat → Tm × Nat} (hf : ∀ t g i, HasTy g t (f t g i)) (t : Ty) (g : List Ty) (i : Nat) : HasTy g t (midP zs f t g i) := by
  unfold midP
  simp only
  generalize (nextP zs i 8).1 = c
  generalize (nextP zs i 8).2 = j
  split
  · have hx := hf t (g ++ [(typeP zs 0 j).1]) (typeP zs 0 j).2
    unfold HasTy at hx
    rw [List.reverse_append] at hx
    obtain ⟨d, hd⟩ := hx
    obtain ⟨e, he⟩ := hf (typeP zs 0 j).1 g (f t (g ++ [(typeP zs 0 j).1]) (typeP zs 0 j).2).2
    exact ⟨_, .app (.lam hd) he⟩
  split
  · obtain ⟨d, hd⟩ := hf t g (typeP zs 0 j).2
    obtain ⟨e, he⟩ := hf (typeP zs 0 j).1 g (f t g (typeP zs 0 j).2).2
    exact ⟨_, .fst (.pair hd he)⟩
  split
  · have hx := hf t (g ++ [.nat, t]) j
    unfold HasTy at hx
    rw [List.reverse_append] at hx
    obtain ⟨d, hd⟩ := hx
    obtain ⟨e, he⟩ := hf t g (f t (g ++ [.nat, t]) j).2
    exact ⟨_, .recn he (.lam (.lam hd)) (T.sem_num _ _)⟩
  split
  · have hx := hf t (g ++ [.nat, .list, t]) j
    unfold HasTy at hx
    rw [List.reverse_append] at hx
    obtain ⟨d, hd⟩ := hx
    obtain ⟨e, he⟩ := hf t g (f t (g ++ [.nat, .list, t]) j).2
    obtain ⟨l, hl⟩ := hf .list g (f t g (f t (g ++ [.nat, .list, t]) j).2).2
    exact ⟨_, .fold he (.lam (.lam (.lam hd))) hl⟩
  split
  · obtain ⟨d, hd⟩ := hf (typeP zs 0 j).1 g (typeP zs 0 j).2
    obtain ⟨e, he⟩ := hf t g (f (typeP zs 0 j).1 g (typeP zs 0 j).2).2
    exact ⟨_, .snd (.pair hd he)⟩
  split
  · split
    · rename_i k a hk
      obtain ⟨p, hp⟩ := look_rev (findFn_some hk)
      obtain ⟨e, he⟩ := hf a g j
      exact ⟨_, .app (.var hp) he⟩
    · exact tailP_ty hf _ _ _
  · exact tailP_ty hf _ _ _

/-! ### Where the deck then stands; small types; how large -/
def Small (zs : List Int) (b : Nat) (t : Ty) (g : List Ty) (p : Tm × Nat) : Prop := p.2 ≤ zs.length ∧ (t.size ≤ 64 → (∀ s ∈ g, s.size ≤ 64) → p.1.small = true ∧ p.1.size ≤ b)
theorem num_small : ∀ n, (T.num n).small = true ∧ (T.num n).size = n + 1
  | 0 => ⟨rfl, rfl⟩
  | n + 1 => by have := num_small n; simp [T.num, Tm.small, Tm.size, this]
theorem nextP_num {zs : List Int} {i k : Nat} (hk : 1 ≤ k) : (nextP zs i k).1.toNat < k := by have := nextP_range zs i (n := k) (by omega); omega
theorem tailP_small {zs : List Int} {f : Ty → List Ty → Nat → Tm × Nat} {b : Nat} (hb : 4 ≤ b) (hf : ∀ t g i, i ≤ zs.length → Small zs b t g (f t g i)) (t : Ty) (g : List Ty) (i : Nat) (hi : i ≤ zs.length) : Small zs (3 * b + 40) t g (tailP zs f t g i) := by
  unfold tailP
  split
  · have h1 := nextP_le 5 hi
    simp only
    generalize (nextP zs i 5).1 = c
    revert h1
    generalize (nextP zs i 5).2 = j
    intro h1
    have x1 := hf .nat g j h1
    have x2 := hf .nat g (f .nat g j).2 x1.1
    split
    · refine ⟨x1.1, fun ht hg => ?_⟩
      have := x1.2 ht hg
      exact ⟨by simpa [Tm.small] using this.1, by simp only [Tm.size]; omega⟩
    split
    · refine ⟨x2.1, fun ht hg => ?_⟩
      have a1 := x1.2 ht hg
      have a2 := x2.2 ht hg
      exact ⟨by simp [Tm.small, T.plus, a1.1, a2.1, Ty.size], by simp only [Tm.size, T.plus]; omega⟩
    split
    · refine ⟨x2.1, fun ht hg => ?_⟩
      have a1 := x1.2 ht hg
      have a2 := x2.2 ht hg
      exact ⟨by simp [Tm.small, T.sub, T.pred, a1.1, a2.1, Ty.size], by simp only [Tm.size, T.sub, T.pred]; omega⟩
    · refine ⟨nextP_le _ h1, fun ht hg => ?_⟩
      have h3 := nextP_num (zs := zs) (i := j) (k := 3) (by decide)
      have h4 := num_small (nextP zs j 3).1.toNat
      exact ⟨h4.1, by simp only [Int.cast_ofNat_Int] at h3; rw [h4.2]; omega⟩
  · have h1 := nextP_le 2 hi
    simp only
    generalize (nextP zs i 2).1 = c
    revert h1
    generalize (nextP zs i 2).2 = j
    intro h1
    have x1 := hf .nat g j h1
    have x2 := hf .list g (f .nat g j).2 x1.1
    split
    · refine ⟨x2.1, fun ht hg => ?_⟩
      have a1 := x1.2 (by simp [Ty.size]) hg
      have a2 := x2.2 ht hg
      exact ⟨by simp [Tm.small, a1.1, a2.1], by simp only [Tm.size]; omega⟩
    · exact ⟨h1, fun _ _ => ⟨rfl, by simp only [Tm.size]; omega⟩⟩
  · exact ⟨hi, fun _ _ => ⟨rfl, by simp only [Tm.size]; omega⟩⟩
  · rename_i a c
    have x1 := hf a g i hi
    have x2 := hf c g (f a g i).2 x1.1
    refine ⟨x2.1, fun ht hg => ?_⟩
    simp only [Ty.size] at ht
    have a1 := x1.2 (by omega) hg
    have a2 := x2.2 (by omega) hg
    exact ⟨by simp [Tm.small, a1.1, a2.1], by simp only [Tm.size]; omega⟩
  · rename_i a c
    have x1 := hf c (g ++ [a]) i hi
    refine ⟨x1.1, fun ht hg => ?_⟩
    simp only [Ty.size] at ht
    have a1 := x1.2 (by omega) (by intro s hs; simp only [List.mem_append, List.mem_singleton] at hs; rcases hs with hs | rfl; exact hg s hs; omega)
    exact ⟨by simp [Tm.small, a1.1]; omega, by simp only [Tm.size]; omega⟩
theorem midP_small {zs : List Int} {f : Ty → List Ty → Nat → Tm × Nat} {b : Nat} (hb : 4 ≤ b) (hf : ∀ t g i, i ≤ zs.length → Small zs b t g (f t g i)) (t : Ty) (g : List Ty) (i : Nat) (hi : i ≤ zs.length) : Small zs (3 * b + 40) t g (midP zs f t g i) := by
  unfold midP
  have h1 := nextP_le 8 hi
  simp only
  generalize (nextP zs i 8).1 = c
  revert h1
  generalize (nextP zs i 8).2 = j
  intro h1
  have hs := typeP_le (zs := zs) 0 h1
  have hsz := typeP_size zs 0 j
  generalize typeP zs 0 j = sp at hs hsz
  obtain ⟨s, k⟩ := sp
  simp only at hs hsz
  have ext : ∀ (l : List Ty), (∀ s ∈ l, s.size ≤ 64) → (∀ s ∈ g, s.size ≤ 64) → ∀ s ∈ g ++ l, s.size ≤ 64 := fun l hl hg s hs => by
    rcases List.mem_append.1 hs with hs | hs
    · exact hg s hs
    · exact hl s hs
  split
  · have x1 := hf t (g ++ [s]) k hs
    have x2 := hf s g (f t (g ++ [s]) k).2 x1.1
    refine ⟨x2.1, fun ht hg => ?_⟩
    have a1 := x1.2 ht (ext _ (by simp; omega) hg)
    have a2 := x2.2 (by omega) hg
    exact ⟨by simp [Tm.small, a1.1, a2.1]; omega, by simp only [Tm.size]; omega⟩
  split
  · have x1 := hf t g k hs
    have x2 := hf s g (f t g k).2 x1.1
    refine ⟨x2.1, fun ht hg => ?_⟩
    have a1 := x1.2 ht hg
    have a2 := x2.2 (by omega) hg
    exact ⟨by simp [Tm.small, a1.1, a2.1], by simp only [Tm.size]; omega⟩
  split
  · have x1 := hf t (g ++ [.nat, t]) j h1
    have x2 := hf t g (f t (g ++ [.nat, t]) j).2 x1.1
    have h3 := nextP_num (zs := zs) (i := (f t g (f t (g ++ [.nat, t]) j).2).2) (k := 3) (by decide)
    have h4 := num_small (nextP zs (f t g (f t (g ++ [.nat, t]) j).2).2 3).1.toNat
    refine ⟨nextP_le _ x2.1, fun ht hg => ?_⟩
    have a1 := x1.2 ht (ext _ (by simp [Ty.size]; omega) hg)
    have a2 := x2.2 ht hg
    simp only [Int.cast_ofNat_Int] at h3
    exact ⟨by simp [Tm.small, a1.1, a2.1, h4.1, Ty.size]; omega, by simp only [Tm.size]; omega⟩
  split
  · have x1 := hf t (g ++ [.nat, .list, t]) j h1
    have x2 := hf t g (f t (g ++ [.nat, .list, t]) j).2 x1.1
    have x3 := hf .list g (f t g (f t (g ++ [.nat, .list, t]) j).2).2 x2.1
    refine ⟨x3.1, fun ht hg => ?_⟩
    have a1 := x1.2 ht (ext _ (by simp [Ty.size]; omega) hg)
    have a2 := x2.2 ht hg
    have a3 := x3.2 (by simp [Ty.size]) hg
    exact ⟨by simp [Tm.small, a1.1, a2.1, a3.1, Ty.size]; omega, by simp only [Tm.size]; omega⟩
  split
  · have x1 := hf s g k hs
    have x2 := hf t g (f s g k).2 x1.1
    refine ⟨x2.1, fun ht hg => ?_⟩
    have a1 := x1.2 (by omega) hg
    have a2 := x2.2 ht hg
    exact ⟨by simp [Tm.small, a1.1, a2.1], by simp only [Tm.size]; omega⟩
  split
  · split
    · rename_i q a hk
      have x1 := hf a g j h1
      refine ⟨x1.1, fun ht hg => ?_⟩
      have hm : (Ty.fn a t) ∈ g := by have := List.mem_of_getElem? (findFn_some hk); simpa using this
      have := hg _ hm
      simp only [Ty.size] at this
      have a1 := x1.2 (by omega) hg
      exact ⟨by simp [Tm.small, a1.1], by simp only [Tm.size]; omega⟩
    · exact tailP_small hb hf t g j h1
  · exact tailP_small hb hf t g j h1
theorem withVar_ty {zs : List Int} {g : List Ty} {t : Ty} {i : Nat} {k : Nat → Tm × Nat} (hk : ∀ i', HasTy g t (k i')) : HasTy g t (withVar zs g t i k) := by
  unfold withVar
  split
  · exact hk i
  · rename_i hne
    simp only
    split
    · have hl : 1 ≤ ((varsOf g t).length : Int) := by have := List.length_pos_iff.2 hne; omega
      have h2 := nextP_range zs (nextP zs i 3).2 hl
      exact hasTy_var (varsOf_mem (getD_mem hne (by omega)))
    · exact hk _
theorem term0_ty (zs : List Int) : ∀ (t : Ty) (g : List Ty) (i : Nat), HasTy g t (term0 zs t g i)
  | .nat, g, i => withVar_ty fun i' => hasTy_num _ _ _
  | .list, g, i => withVar_ty fun i' => ⟨_, .nil⟩
  | .unit, g, i => withVar_ty fun i' => ⟨_, .unit⟩
  | .pair a b, g, i => withVar_ty fun i' => by
    obtain ⟨d, hd⟩ := term0_ty zs a g i'
    obtain ⟨e, he⟩ := term0_ty zs b g (term0 zs a g i').2
    exact ⟨_, .pair hd he⟩
  | .fn a b, g, i => withVar_ty fun i' => by
    have hx := term0_ty zs b (g ++ [a]) i'
    unfold HasTy at hx
    rw [List.reverse_append] at hx
    obtain ⟨d, hd⟩ := hx
    exact ⟨_, .lam hd⟩
theorem term0_small (zs : List Int) : ∀ (t : Ty) (g : List Ty) (i : Nat), i ≤ zs.length → Small zs (4 * t.size) t g (term0 zs t g i)
  | .nat, g, i, hi => withVar_ind hi (fun j hj i' hi' => ⟨hi', fun _ _ => ⟨rfl, by simp [Tm.size, Ty.size]⟩⟩) fun i' hi' => ⟨nextP_le 3 hi', fun _ _ => by
    have h3 := nextP_num (zs := zs) (i := i') (k := 3) (by decide)
    have h4 := num_small (nextP zs i' 3).1.toNat
    simp only [Int.cast_ofNat_Int] at h3
    exact ⟨h4.1, by simp only [h4.2, Ty.size]; omega⟩⟩
  | .list, g, i, hi => withVar_ind hi (fun j hj i' hi' => ⟨hi', fun _ _ => ⟨rfl, by simp [Tm.size, Ty.size]⟩⟩) fun i' hi' => ⟨hi', fun _ _ => ⟨rfl, by simp [Tm.size, Ty.size]⟩⟩
  | .unit, g, i, hi => withVar_ind hi (fun j hj i' hi' => ⟨hi', fun _ _ => ⟨rfl, by simp [Tm.size, Ty.size]⟩⟩) fun i' hi' => ⟨hi', fun _ _ => ⟨rfl, by simp [Tm.size, Ty.size]⟩⟩
  | .pair a b, g, i, hi => withVar_ind hi (fun j hj i' hi' => ⟨hi', fun _ _ => ⟨rfl, by simp only [Tm.size, Ty.size]; omega⟩⟩) fun i' hi' => by
    have x1 := term0_small zs a g i' hi'
    have x2 := term0_small zs b g (term0 zs a g i').2 x1.1
    refine ⟨x2.1, fun ht hg => ?_⟩
    simp only [Ty.size] at ht
    have a1 := x1.2 (by omega) hg
    have a2 := x2.2 (by omega) hg
    exact ⟨by simp [Tm.small, a1.1, a2.1], by simp only [Tm.size, Ty.size]; omega⟩
  | .fn a b, g, i, hi => withVar_ind hi (fun j hj i' hi' => ⟨hi', fun _ _ => ⟨rfl, by simp only [Tm.size, Ty.size]; omega⟩⟩) fun i' hi' => by
    have x1 := term0_small zs b (g ++ [a]) i' hi'
    refine ⟨x1.1, fun ht hg => ?_⟩
    simp only [Ty.size] at ht
    have a1 := x1.2 (by omega) (by intro s hs; simp only [List.mem_append, List.mem_singleton] at hs; rcases hs with hs | rfl; exact hg s hs; omega)
    exact ⟨by simp [Tm.small, a1.1]; omega, by simp only [Tm.size, Ty.size]; omega⟩
theorem termP_ty (zs : List Int) : ∀ (d : Nat) (t : Ty) (g : List Ty) (i : Nat), HasTy g t (termP zs d t g i)
  | 0, t, g, i => term0_ty zs t g i
  | d + 1, t, g, i => withVar_ty fun i' => midP_ty (termP_ty zs d) t g i'
theorem termP_small (zs : List Int) : ∀ (d : Nat) (t : Ty) (g : List Ty) (i : Nat), i ≤ zs.length → Small zs (276 * 3 ^ d - 20) t g (termP zs d t g i)
  | 0, t, g, i, hi => by
    have h := term0_small zs t g i hi
    exact ⟨h.1, fun ht hg => by have := h.2 ht hg; exact ⟨this.1, by simp only [termP]; omega⟩⟩
  | d + 1, t, g, i, hi => by
    have hp : 1 ≤ 3 ^ d := Nat.one_le_pow _ _ (by decide)
    refine withVar_ind hi (fun j hj i' hi' => ⟨hi', fun _ _ => ⟨rfl, by simp only [Tm.size]; rw [Nat.pow_succ]; omega⟩⟩) fun i' hi' => ?_
    have h := midP_small (b := 276 * 3 ^ d - 20) (by omega) (termP_small zs d) t g i' hi'
    exact ⟨h.1, fun ht hg => by have := h.2 ht hg; exact ⟨this.1, by rw [Nat.pow_succ]; omega⟩⟩
end M
end Go.Proofs.YthclcchnodjjpaaGreatDoor
