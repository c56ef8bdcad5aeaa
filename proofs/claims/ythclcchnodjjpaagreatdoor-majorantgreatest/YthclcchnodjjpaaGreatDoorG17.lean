/- A part of the proof: MjA, MjB. -/
import Derived.Test.YthclcchnodjjpaaGreatDoorG13
import Derived.Test.YthclcchnodjjpaaGreatDoorG16
/- The maker of majorants: bare, node, plain, call, max, step. -/
set_option linter.unusedVariables false
set_option linter.unusedSimpArgs false
set_option maxRecDepth 10000
set_option maxHeartbeats 4000000
namespace Go.Proofs.YthclcchnodjjpaaGreatDoor
namespace M
attribute [local irreducible] Wp thenK blockK endK
variable {E : Oracle}
open T (Ty Tm noTy)
theorem v_greater_c  (g : Nat) (S : St)  : callT (X.at g) (den X E) S 109 [] = some (.agg [.int .i64 T.greater.raw.k, .int .i64 T.greater.raw.i, .int .i64 T.greater.raw.ty.k, .sl (List.map RT.cells T.greater.raw.ty.as) .dead, .sl (List.map RM.cells T.greater.raw.as) .dead], S) := by
  simpa using call_up (cf := X.at g) (fn := Tryz.f109) (args' := []) (by kernel_rfl) (by simp) (by simp; try rfl) (v_greater) S
theorem scBuild_c {k m : Int} {us : List RT} {l : List RM} (ht : (RM.mk k 0 (.mk m us) l).nodes ≤ 1000000000) (g : Nat) (S : St) (o1 o2 : Own) : callT (X.at g) (den X E) S 113 [.int .i64 k, .agg [.int .i64 m, .sl (List.map RT.cells us) o1], .sl (l.map RM.cells) o2] = some (if (RM.mk k 0 (.mk m us) l).count ≤ 4096 then .tup [.agg [.int .i64 k, .int .i64 0, .int .i64 m, .sl (List.map RT.cells us) .dead, .sl (List.map RM.cells l) .dead], .int .i64 0] else .tup [.agg [.int .i64 0, .int .i64 0, .int .i64 0, .sl (List.map RT.cells []) .dead, .sl (List.map RM.cells []) .dead], .int .i64 4], S) := by
  simpa using call_up (cf := X.at g) (fn := Tryz.f113) (args' := [.int .i64 k, .agg [.int .i64 m, .sl (List.map RT.cells us) o1], .sl (l.map RM.cells) o2]) (by kernel_rfl) (by simp) (by simp; try rfl) (scBuild k (.mk m us) l ht) S

theorem bare1 (s : Ty) (hs : s.size ≤ 1000000000) : den X E 58 [s.raw.enc] [] = some (s.star.raw.enc, []) := by
  induction s with
  | pair a b ih1 ih2 =>
    simp only [Ty.size] at hs
    have c1 : ∀ (_ : Unit), ∀ (g : Nat) (S : St) (o1 : Own), callT (X.at g) (den X E) S 58 [.agg [.int .i64 a.raw.k, .sl (List.map RT.cells a.raw.as) o1]] = some (.agg [.int .i64 a.star.raw.k, .sl (List.map RT.cells a.star.raw.as) .dead], S) := by
      intros
      simpa using call_up (cf := X.at _) (fn := Tryz.f58) (args' := [_]) (by kernel_rfl) (by simp) (by simp; try rfl) (ih1 (by omega)) _
    have c2 : ∀ (_ : Unit), ∀ (g : Nat) (S : St) (o1 : Own), callT (X.at g) (den X E) S 58 [.agg [.int .i64 b.raw.k, .sl (List.map RT.cells b.raw.as) o1]] = some (.agg [.int .i64 b.star.raw.k, .sl (List.map RT.cells b.star.raw.as) .dead], S) := by
      intros
      simpa using call_up (cf := X.at _) (fn := Tryz.f58) (args' := [_]) (by kernel_rfl) (by simp) (by simp; try rfl) (ih2 (by omega)) _
    have ihc : ∀ u : Ty, u ∈ [a, b] → ∀ g S o1, callT (X.at g) (den X E) S 58 [.agg [.int .i64 u.raw.k, .sl (List.map RT.cells u.raw.as) o1]] = some (.agg [.int .i64 u.star.raw.k, .sl (List.map RT.cells u.star.raw.as) .dead], S) := by
      intro u hu
      simp at hu
      rcases hu with rfl | rfl
      · exact c1 ()
      · exact c2 ()
    have hl : ([a.raw, b.raw] : List RT) = [a, b].map Ty.raw := rfl
    simp only [Ty.raw, hl, RT.enc_eq, RT.k_mk, RT.as_mk]
    generalize hll : [a, b] = l at ihc
    have hlen : l.length = 2 := by rw [← hll]; rfl
    refine den_w0 (fn := Tryz.f58) (by rfl) (by rfl) (by kernel_rfl) rfl (by rfl) ?_
    simp -implicitDefEqProofs
    (repeat (first | refine Wp.seq ?_ | refine Wp.block ?_ | refine Wp.skip ?_ | refine Wp.exit ?_ | refine Wp.ret ?_ | refine thenK_n ?_ | refine thenK_r ?_ | refine thenK_e ?_ | refine blockK_n ?_ | refine blockK_r ?_ | refine blockK_e ?_ | refine blockK_o (by decide) ?_ | (refine Wp.condT ?_ ?_; focus (simp -implicitDefEqProofs <;> fail)) | (refine Wp.condF ?_ ?_; focus (simp -implicitDefEqProofs <;> fail)) | refine Wp.reg (by simp -implicitDefEqProofs; exact ⟨rfl, rfl⟩) ?_ | refine Wp.regA (by simp -implicitDefEqProofs; exact ⟨rfl, rfl⟩) (by rfl) ?_))
    refine Wp.loopF [5, 16, 17, 18, 19, 20, 21, 22, 23, 24, 25, 26, 27] [2] (fun n w c tk => ∃ done rest o, l = done ++ rest ∧ n = rest.length ∧ w 16 = .int .i64 done.length ∧ c 2 = [.int .i64 3, .sl (List.map (RT.cells ∘ fun u : Ty => u.star.raw) done) o] ∧ Can tk (List.map (RT.cells ∘ fun u : Ty => u.star.raw) done) o) (l.length) ?_ ?_ ?_ ?_
    · rfl
    · rfl
    · exact ⟨[], l, .full, by simp, rfl, rfl, rfl, trivial⟩
    rintro n w c junk tk r σ ⟨done, rest, o, hl, rfl, hix, hacc, hcan⟩ hr hσ
    simp -implicitDefEqProofs [hix, hacc] at hr hσ
    subst hr hσ
    rcases rest with _ | ⟨a, rest⟩
    rotate_left
    · have ha : el l done.length = some a := by simp [hl]
      have hlt : done.length < l.length := by simp [hl]
      have hmem : a ∈ l := by simp [hl]
      have hw : IntKind.i64.wrap ((done.length : Int) + 1) = done.length + 1 := IntWalk.i64_in _ (by omega)
      obtain ⟨o', tk', happ, hcan'⟩ := can_app hcan 2 (by decide) (by simp) (by simp; omega)
      (repeat (first | refine Wp.seq ?_ | refine Wp.block ?_ | refine Wp.skip ?_ | refine Wp.exit ?_ | refine Wp.ret ?_ | refine thenK_n ?_ | refine thenK_r ?_ | refine thenK_e ?_ | refine blockK_n ?_ | refine blockK_r ?_ | refine blockK_e ?_ | refine blockK_o (by decide) ?_ | (refine Wp.condT ?_ ?_; focus (simp -implicitDefEqProofs [ha, hlt, hw, happ, ihc a hmem] <;> fail)) | (refine Wp.condF ?_ ?_; focus (simp -implicitDefEqProofs [ha, hlt, hw, happ, ihc a hmem] <;> fail)) | refine Wp.reg (by simp -implicitDefEqProofs [ha, hlt, hw, happ, ihc a hmem]; exact ⟨rfl, rfl⟩) ?_ | refine Wp.regA (by simp -implicitDefEqProofs [ha, hlt, hw, happ, ihc a hmem]; exact ⟨rfl, rfl⟩) (by rfl) ?_))
      refine ⟨by simp, ⟨_, by simp -implicitDefEqProofs; rfl⟩, rest.length, by simp, done ++ [a], rest, o', by simp [hl], rfl, by simp, by simp, by simpa using hcan' _⟩
    simp at hl
    subst hl
    (repeat (first | refine Wp.seq ?_ | refine Wp.block ?_ | refine Wp.skip ?_ | refine Wp.exit ?_ | refine Wp.ret ?_ | refine thenK_n ?_ | refine thenK_r ?_ | refine thenK_e ?_ | refine blockK_n ?_ | refine blockK_r ?_ | refine blockK_e ?_ | refine blockK_o (by decide) ?_ | (refine Wp.condT ?_ ?_; focus (simp -implicitDefEqProofs [hlen] <;> fail)) | (refine Wp.condF ?_ ?_; focus (simp -implicitDefEqProofs [hlen] <;> fail)) | refine Wp.reg (by simp -implicitDefEqProofs [hlen]; exact ⟨rfl, rfl⟩) ?_ | refine Wp.regA (by simp -implicitDefEqProofs [hlen]; exact ⟨rfl, rfl⟩) (by rfl) ?_))
    (apply endK_r; (focus (simp -implicitDefEqProofs [Tryz.f58, ← hll, Ty.star, Ty.raw]; try rfl)); (focus (intro g; simp -implicitDefEqProofs [Tryz.f58, ← hll, Ty.star, Ty.raw])); exact ⟨_, rfl⟩)
  | fn a b ih1 ih2 =>
    simp only [Ty.size] at hs
    have c1 : ∀ (_ : Unit), ∀ (g : Nat) (S : St) (o1 : Own), callT (X.at g) (den X E) S 58 [.agg [.int .i64 a.raw.k, .sl (List.map RT.cells a.raw.as) o1]] = some (.agg [.int .i64 a.star.raw.k, .sl (List.map RT.cells a.star.raw.as) .dead], S) := by
      intros
      simpa using call_up (cf := X.at _) (fn := Tryz.f58) (args' := [_]) (by kernel_rfl) (by simp) (by simp; try rfl) (ih1 (by omega)) _
    have c2 : ∀ (_ : Unit), ∀ (g : Nat) (S : St) (o1 : Own), callT (X.at g) (den X E) S 58 [.agg [.int .i64 b.raw.k, .sl (List.map RT.cells b.raw.as) o1]] = some (.agg [.int .i64 b.star.raw.k, .sl (List.map RT.cells b.star.raw.as) .dead], S) := by
      intros
      simpa using call_up (cf := X.at _) (fn := Tryz.f58) (args' := [_]) (by kernel_rfl) (by simp) (by simp; try rfl) (ih2 (by omega)) _
    have ihc : ∀ u : Ty, u ∈ [a, b] → ∀ g S o1, callT (X.at g) (den X E) S 58 [.agg [.int .i64 u.raw.k, .sl (List.map RT.cells u.raw.as) o1]] = some (.agg [.int .i64 u.star.raw.k, .sl (List.map RT.cells u.star.raw.as) .dead], S) := by
      intro u hu
      simp at hu
      rcases hu with rfl | rfl
      · exact c1 ()
      · exact c2 ()
    have hl : ([a.raw, b.raw] : List RT) = [a, b].map Ty.raw := rfl
    simp only [Ty.raw, hl, RT.enc_eq, RT.k_mk, RT.as_mk]
    generalize hll : [a, b] = l at ihc
    have hlen : l.length = 2 := by rw [← hll]; rfl
    refine den_w0 (fn := Tryz.f58) (by rfl) (by rfl) (by kernel_rfl) rfl (by rfl) ?_
    simp -implicitDefEqProofs
    (repeat (first | refine Wp.seq ?_ | refine Wp.block ?_ | refine Wp.skip ?_ | refine Wp.exit ?_ | refine Wp.ret ?_ | refine thenK_n ?_ | refine thenK_r ?_ | refine thenK_e ?_ | refine blockK_n ?_ | refine blockK_r ?_ | refine blockK_e ?_ | refine blockK_o (by decide) ?_ | (refine Wp.condT ?_ ?_; focus (simp -implicitDefEqProofs <;> fail)) | (refine Wp.condF ?_ ?_; focus (simp -implicitDefEqProofs <;> fail)) | refine Wp.reg (by simp -implicitDefEqProofs; exact ⟨rfl, rfl⟩) ?_ | refine Wp.regA (by simp -implicitDefEqProofs; exact ⟨rfl, rfl⟩) (by rfl) ?_))
    refine Wp.loopF [5, 16, 17, 18, 19, 20, 21, 22, 23, 24, 25, 26, 27] [2] (fun n w c tk => ∃ done rest o, l = done ++ rest ∧ n = rest.length ∧ w 16 = .int .i64 done.length ∧ c 2 = [.int .i64 4, .sl (List.map (RT.cells ∘ fun u : Ty => u.star.raw) done) o] ∧ Can tk (List.map (RT.cells ∘ fun u : Ty => u.star.raw) done) o) (l.length) ?_ ?_ ?_ ?_
    · rfl
    · rfl
    · exact ⟨[], l, .full, by simp, rfl, rfl, rfl, trivial⟩
    rintro n w c junk tk r σ ⟨done, rest, o, hl, rfl, hix, hacc, hcan⟩ hr hσ
    simp -implicitDefEqProofs [hix, hacc] at hr hσ
    subst hr hσ
    rcases rest with _ | ⟨a, rest⟩
    rotate_left
    · have ha : el l done.length = some a := by simp [hl]
      have hlt : done.length < l.length := by simp [hl]
      have hmem : a ∈ l := by simp [hl]
      have hw : IntKind.i64.wrap ((done.length : Int) + 1) = done.length + 1 := IntWalk.i64_in _ (by omega)
      obtain ⟨o', tk', happ, hcan'⟩ := can_app hcan 2 (by decide) (by simp) (by simp; omega)
      (repeat (first | refine Wp.seq ?_ | refine Wp.block ?_ | refine Wp.skip ?_ | refine Wp.exit ?_ | refine Wp.ret ?_ | refine thenK_n ?_ | refine thenK_r ?_ | refine thenK_e ?_ | refine blockK_n ?_ | refine blockK_r ?_ | refine blockK_e ?_ | refine blockK_o (by decide) ?_ | (refine Wp.condT ?_ ?_; focus (simp -implicitDefEqProofs [ha, hlt, hw, happ, ihc a hmem] <;> fail)) | (refine Wp.condF ?_ ?_; focus (simp -implicitDefEqProofs [ha, hlt, hw, happ, ihc a hmem] <;> fail)) | refine Wp.reg (by simp -implicitDefEqProofs [ha, hlt, hw, happ, ihc a hmem]; exact ⟨rfl, rfl⟩) ?_ | refine Wp.regA (by simp -implicitDefEqProofs [ha, hlt, hw, happ, ihc a hmem]; exact ⟨rfl, rfl⟩) (by rfl) ?_))
      refine ⟨by simp, ⟨_, by simp -implicitDefEqProofs; rfl⟩, rest.length, by simp, done ++ [a], rest, o', by simp [hl], rfl, by simp, by simp, by simpa using hcan' _⟩
    simp at hl
    subst hl
    (repeat (first | refine Wp.seq ?_ | refine Wp.block ?_ | refine Wp.skip ?_ | refine Wp.exit ?_ | refine Wp.ret ?_ | refine thenK_n ?_ | refine thenK_r ?_ | refine thenK_e ?_ | refine blockK_n ?_ | refine blockK_r ?_ | refine blockK_e ?_ | refine blockK_o (by decide) ?_ | (refine Wp.condT ?_ ?_; focus (simp -implicitDefEqProofs [hlen] <;> fail)) | (refine Wp.condF ?_ ?_; focus (simp -implicitDefEqProofs [hlen] <;> fail)) | refine Wp.reg (by simp -implicitDefEqProofs [hlen]; exact ⟨rfl, rfl⟩) ?_ | refine Wp.regA (by simp -implicitDefEqProofs [hlen]; exact ⟨rfl, rfl⟩) (by rfl) ?_))
    (apply endK_r; (focus (simp -implicitDefEqProofs [Tryz.f58, ← hll, Ty.star, Ty.raw]; try rfl)); (focus (intro g; simp -implicitDefEqProofs [Tryz.f58, ← hll, Ty.star, Ty.raw])); exact ⟨_, rfl⟩)
  | list =>
    simp only [Ty.raw, Ty.star, RT.enc_eq, RT.k_mk, RT.as_mk]
    refine den_w0 (fn := Tryz.f58) (by rfl) (by rfl) (by kernel_rfl) rfl (by rfl) ?_
    simp -implicitDefEqProofs
    (repeat (first | refine Wp.seq ?_ | refine Wp.block ?_ | refine Wp.skip ?_ | refine Wp.exit ?_ | refine Wp.ret ?_ | refine thenK_n ?_ | refine thenK_r ?_ | refine thenK_e ?_ | refine blockK_n ?_ | refine blockK_r ?_ | refine blockK_e ?_ | refine blockK_o (by decide) ?_ | (refine Wp.condT ?_ ?_; focus (simp -implicitDefEqProofs [scNat_c] <;> fail)) | (refine Wp.condF ?_ ?_; focus (simp -implicitDefEqProofs [scNat_c] <;> fail)) | refine Wp.reg (by simp -implicitDefEqProofs [scNat_c]; exact ⟨rfl, rfl⟩) ?_ | refine Wp.regA (by simp -implicitDefEqProofs [scNat_c]; exact ⟨rfl, rfl⟩) (by rfl) ?_))
    (apply endK_r; (focus (simp -implicitDefEqProofs [Tryz.f58]; try rfl)); (focus (intro g; simp -implicitDefEqProofs [Tryz.f58])); exact ⟨_, rfl⟩)
  | nat =>
    simp only [Ty.raw, Ty.star, RT.enc_eq, RT.k_mk, RT.as_mk]
    refine den_w0 (fn := Tryz.f58) (by rfl) (by rfl) (by kernel_rfl) rfl (by rfl) ?_
    simp -implicitDefEqProofs
    (repeat (first | refine Wp.seq ?_ | refine Wp.block ?_ | refine Wp.skip ?_ | refine Wp.exit ?_ | refine Wp.ret ?_ | refine thenK_n ?_ | refine thenK_r ?_ | refine thenK_e ?_ | refine blockK_n ?_ | refine blockK_r ?_ | refine blockK_e ?_ | refine blockK_o (by decide) ?_ | (refine Wp.condT ?_ ?_; focus (simp -implicitDefEqProofs <;> fail)) | (refine Wp.condF ?_ ?_; focus (simp -implicitDefEqProofs <;> fail)) | refine Wp.reg (by simp -implicitDefEqProofs; exact ⟨rfl, rfl⟩) ?_ | refine Wp.regA (by simp -implicitDefEqProofs; exact ⟨rfl, rfl⟩) (by rfl) ?_))
    refine Wp.loopF [5, 16, 17, 18, 19, 20, 21, 22, 23, 24, 25, 26, 27] [] (fun n w c tk => w 16 = .int .i64 0) (0) ?_ ?_ ?_ ?_
    · rfl
    · rfl
    · exact rfl
    rintro n w c junk tk r σ h16 hr hσ
    simp -implicitDefEqProofs [h16] at hr hσ
    subst hr hσ
    (repeat (first | refine Wp.seq ?_ | refine Wp.block ?_ | refine Wp.skip ?_ | refine Wp.exit ?_ | refine Wp.ret ?_ | refine thenK_n ?_ | refine thenK_r ?_ | refine thenK_e ?_ | refine blockK_n ?_ | refine blockK_r ?_ | refine blockK_e ?_ | refine blockK_o (by decide) ?_ | (refine Wp.condT ?_ ?_; focus (simp -implicitDefEqProofs <;> fail)) | (refine Wp.condF ?_ ?_; focus (simp -implicitDefEqProofs <;> fail)) | refine Wp.reg (by simp -implicitDefEqProofs; exact ⟨rfl, rfl⟩) ?_ | refine Wp.regA (by simp -implicitDefEqProofs; exact ⟨rfl, rfl⟩) (by rfl) ?_))
    (apply endK_r; (focus (simp -implicitDefEqProofs [Tryz.f58]; try rfl)); (focus (intro g; simp -implicitDefEqProofs [Tryz.f58])); exact ⟨_, rfl⟩)
  | unit =>
    simp only [Ty.raw, Ty.star, RT.enc_eq, RT.k_mk, RT.as_mk]
    refine den_w0 (fn := Tryz.f58) (by rfl) (by rfl) (by kernel_rfl) rfl (by rfl) ?_
    simp -implicitDefEqProofs
    (repeat (first | refine Wp.seq ?_ | refine Wp.block ?_ | refine Wp.skip ?_ | refine Wp.exit ?_ | refine Wp.ret ?_ | refine thenK_n ?_ | refine thenK_r ?_ | refine thenK_e ?_ | refine blockK_n ?_ | refine blockK_r ?_ | refine blockK_e ?_ | refine blockK_o (by decide) ?_ | (refine Wp.condT ?_ ?_; focus (simp -implicitDefEqProofs <;> fail)) | (refine Wp.condF ?_ ?_; focus (simp -implicitDefEqProofs <;> fail)) | refine Wp.reg (by simp -implicitDefEqProofs; exact ⟨rfl, rfl⟩) ?_ | refine Wp.regA (by simp -implicitDefEqProofs; exact ⟨rfl, rfl⟩) (by rfl) ?_))
    refine Wp.loopF [5, 16, 17, 18, 19, 20, 21, 22, 23, 24, 25, 26, 27] [] (fun n w c tk => w 16 = .int .i64 0) (0) ?_ ?_ ?_ ?_
    · rfl
    · rfl
    · exact rfl
    rintro n w c junk tk r σ h16 hr hσ
    simp -implicitDefEqProofs [h16] at hr hσ
    subst hr hσ
    (repeat (first | refine Wp.seq ?_ | refine Wp.block ?_ | refine Wp.skip ?_ | refine Wp.exit ?_ | refine Wp.ret ?_ | refine thenK_n ?_ | refine thenK_r ?_ | refine thenK_e ?_ | refine blockK_n ?_ | refine blockK_r ?_ | refine blockK_e ?_ | refine blockK_o (by decide) ?_ | (refine Wp.condT ?_ ?_; focus (simp -implicitDefEqProofs <;> fail)) | (refine Wp.condF ?_ ?_; focus (simp -implicitDefEqProofs <;> fail)) | refine Wp.reg (by simp -implicitDefEqProofs; exact ⟨rfl, rfl⟩) ?_ | refine Wp.regA (by simp -implicitDefEqProofs; exact ⟨rfl, rfl⟩) (by rfl) ?_))
    (apply endK_r; (focus (simp -implicitDefEqProofs [Tryz.f58]; try rfl)); (focus (intro g; simp -implicitDefEqProofs [Tryz.f58])); exact ⟨_, rfl⟩)
theorem bare1_c {s : Ty} (hs : s.size ≤ 1000000000) (g : Nat) (S : St) (o1 : Own) : callT (X.at g) (den X E) S 58 [.agg [.int .i64 s.raw.k, .sl (List.map RT.cells s.raw.as) o1]] = some (.agg [.int .i64 s.star.raw.k, .sl (List.map RT.cells s.star.raw.as) .dead], S) := by
  simpa using call_up (cf := X.at g) (fn := Tryz.f58) (args' := [.agg [.int .i64 s.raw.k, .sl (List.map RT.cells s.raw.as) o1]]) (by kernel_rfl) (by simp) (by simp; try rfl) (bare1 s hs) S

theorem mjNode (e k : Int) (s : RT) (l : List RM) (ht : (RM.mk k 0 s l).nodes ≤ 1000000000) : den X E 90 [.loc 0 0, .int .i64 k, s.enc, .sl (l.map RM.cells) .dead] [[.int .i64 e]] = some ((nodeM e k s l).1.enc, [[.int .i64 (nodeM e k s l).2]]) := by
  by_cases he : e = 0
  · subst he
    have c1 := scBuild_c (E := E) (k := k) (m := s.k) (us := s.as) (l := l) (by simpa using ht)
    simp at c1
    by_cases h : (RM.mk k 0 s l).count ≤ 4096
    · have hn : nodeM 0 k s l = (.mk k 0 s l, 0) := by simp [nodeM, h]
      rw [hn]
      simp only [h, if_true] at c1
      refine den_w (fn := Tryz.f90) (σ1 := [[.int .i64 0]]) (by rfl) (by rfl) (by kernel_rfl) rfl (by rfl) (by rfl) (by simp -implicitDefEqProofs) ?_
      simp -implicitDefEqProofs
      (repeat (first | refine Wp.seq ?_ | refine Wp.block ?_ | refine Wp.skip ?_ | refine Wp.exit ?_ | refine Wp.ret ?_ | refine thenK_n ?_ | refine thenK_r ?_ | refine thenK_e ?_ | refine blockK_n ?_ | refine blockK_r ?_ | refine blockK_e ?_ | refine blockK_o (by decide) ?_ | (refine Wp.condT ?_ ?_; focus (simp -implicitDefEqProofs [c1] <;> fail)) | (refine Wp.condF ?_ ?_; focus (simp -implicitDefEqProofs [c1] <;> fail)) | refine Wp.reg (by simp -implicitDefEqProofs [c1]; exact ⟨rfl, rfl⟩) ?_ | refine Wp.regA (by simp -implicitDefEqProofs [c1]; exact ⟨rfl, rfl⟩) (by rfl) ?_))
      (apply endK_r; (focus (simp -implicitDefEqProofs [Tryz.f90]; try rfl)); (focus (intro g; simp -implicitDefEqProofs [Tryz.f90])); exact ⟨_, rfl⟩)
    · have hn : nodeM 0 k s l = (zeroM, 4) := by simp [nodeM, h]
      rw [hn]
      simp only [h, if_false] at c1
      refine den_w (fn := Tryz.f90) (σ1 := [[.int .i64 4]]) (by rfl) (by rfl) (by kernel_rfl) rfl (by rfl) (by rfl) (by simp -implicitDefEqProofs) ?_
      simp -implicitDefEqProofs
      (repeat (first | refine Wp.seq ?_ | refine Wp.block ?_ | refine Wp.skip ?_ | refine Wp.exit ?_ | refine Wp.ret ?_ | refine thenK_n ?_ | refine thenK_r ?_ | refine thenK_e ?_ | refine blockK_n ?_ | refine blockK_r ?_ | refine blockK_e ?_ | refine blockK_o (by decide) ?_ | (refine Wp.condT ?_ ?_; focus (simp -implicitDefEqProofs [c1] <;> fail)) | (refine Wp.condF ?_ ?_; focus (simp -implicitDefEqProofs [c1] <;> fail)) | refine Wp.reg (by simp -implicitDefEqProofs [c1]; exact ⟨rfl, rfl⟩) ?_ | refine Wp.regA (by simp -implicitDefEqProofs [c1]; exact ⟨rfl, rfl⟩) (by rfl) ?_))
      (apply endK_r; (focus (simp -implicitDefEqProofs [Tryz.f90, zeroM]; try rfl)); (focus (intro g; simp -implicitDefEqProofs [Tryz.f90, zeroM])); exact ⟨_, rfl⟩)
  · have hn : nodeM e k s l = (zeroM, e) := by simp [nodeM, he]
    rw [hn]
    refine den_w (fn := Tryz.f90) (σ1 := [[.int .i64 e]]) (by rfl) (by rfl) (by kernel_rfl) rfl (by rfl) (by rfl) (by simp -implicitDefEqProofs) ?_
    simp -implicitDefEqProofs
    (repeat (first | refine Wp.seq ?_ | refine Wp.block ?_ | refine Wp.skip ?_ | refine Wp.exit ?_ | refine Wp.ret ?_ | refine thenK_n ?_ | refine thenK_r ?_ | refine thenK_e ?_ | refine blockK_n ?_ | refine blockK_r ?_ | refine blockK_e ?_ | refine blockK_o (by decide) ?_ | (refine Wp.condT ?_ ?_; focus (simp -implicitDefEqProofs [he] <;> fail)) | (refine Wp.condF ?_ ?_; focus (simp -implicitDefEqProofs [he] <;> fail)) | refine Wp.reg (by simp -implicitDefEqProofs [he]; exact ⟨rfl, rfl⟩) ?_ | refine Wp.regA (by simp -implicitDefEqProofs [he]; exact ⟨rfl, rfl⟩) (by rfl) ?_))
    (apply endK_r; (focus (simp -implicitDefEqProofs [Tryz.f90, zeroM]; try rfl)); (focus (intro g; simp -implicitDefEqProofs [Tryz.f90, zeroM])); exact ⟨_, rfl⟩)
theorem mjNode_c {e k m : Int} {us : List RT} {l : List RM} (ht : (RM.mk k 0 (.mk m us) l).nodes ≤ 1000000000) (g b : Nat) (S : St) (o1 o2 : Own) (hS : sd S.σ b = some [.int .i64 e]) : callT (X.at g) (den X E) S 90 [.loc b 0, .int .i64 k, .agg [.int .i64 m, .sl (List.map RT.cells us) o1], .sl (l.map RM.cells) o2] = some (.agg [.int .i64 (nodeM e k (.mk m us) l).1.k, .int .i64 (nodeM e k (.mk m us) l).1.i, .int .i64 (nodeM e k (.mk m us) l).1.ty.k, .sl (List.map RT.cells (nodeM e k (.mk m us) l).1.ty.as) .dead, .sl (List.map RM.cells (nodeM e k (.mk m us) l).1.as) .dead], { S with σ := S.σ.set b [.int .i64 (nodeM e k (.mk m us) l).2] }) := by
  simpa using call_upD (cf := X.at g) (fn := Tryz.f90) (args' := [.int .i64 k, .agg [.int .i64 m, .sl (List.map RT.cells us) o1], .sl (l.map RM.cells) o2]) (by kernel_rfl) rfl (by rfl) (by rfl) (by simp) (by simp; try rfl) (by simp) (by simp) (mjNode e k (.mk m us) l ht) S hS
end M
end Go.Proofs.YthclcchnodjjpaaGreatDoor
/- The maker of majorants: plain, call, max, step. -/
set_option linter.unusedVariables false
set_option linter.unusedSimpArgs false
set_option maxRecDepth 10000
set_option maxHeartbeats 4000000
namespace Go.Proofs.YthclcchnodjjpaaGreatDoor
namespace M
attribute [local irreducible] Wp thenK blockK endK
variable {E : Oracle}
open T (Ty Tm noTy)
attribute [local simp] noTy
theorem mjPlain (e k : Int) (l : List RM) (ht : (RM.mk k 0 noTy l).nodes ≤ 1000000000) : den X E 89 [.loc 0 0, .int .i64 k, .sl (l.map RM.cells) .dead] [[.int .i64 e]] = some ((nodeM e k noTy l).1.enc, [[.int .i64 (nodeM e k noTy l).2]]) := by
  have c1 := mjNode_c (E := E) (e := e) (k := k) (m := 0) (us := []) (l := l) ht
  simp at c1
  refine den_w (fn := Tryz.f89) (σ1 := [[.int .i64 (nodeM e k noTy l).2]]) (by rfl) (by rfl) (by kernel_rfl) rfl (by rfl) (by rfl) (by simp -implicitDefEqProofs) ?_
  simp -implicitDefEqProofs
  (repeat (first | refine Wp.seq ?_ | refine Wp.block ?_ | refine Wp.skip ?_ | refine Wp.exit ?_ | refine Wp.ret ?_ | refine thenK_n ?_ | refine thenK_r ?_ | refine thenK_e ?_ | refine blockK_n ?_ | refine blockK_r ?_ | refine blockK_e ?_ | refine blockK_o (by decide) ?_ | (refine Wp.condT ?_ ?_; focus (simp -implicitDefEqProofs [c1] <;> fail)) | (refine Wp.condF ?_ ?_; focus (simp -implicitDefEqProofs [c1] <;> fail)) | refine Wp.reg (by simp -implicitDefEqProofs [c1]; exact ⟨rfl, rfl⟩) ?_ | refine Wp.regA (by simp -implicitDefEqProofs [c1]; exact ⟨rfl, rfl⟩) (by rfl) ?_))
  (apply endK_r; (focus (simp -implicitDefEqProofs [Tryz.f89]; try rfl)); (focus (intro g; simp -implicitDefEqProofs [Tryz.f89])); exact ⟨_, rfl⟩)
theorem mjPlain_c {e k : Int} {l : List RM} (ht : (RM.mk k 0 (.mk 0 []) l).nodes ≤ 1000000000) (g b : Nat) (S : St) (o1 : Own) (hS : sd S.σ b = some [.int .i64 e]) : callT (X.at g) (den X E) S 89 [.loc b 0, .int .i64 k, .sl (l.map RM.cells) o1] = some (.agg [.int .i64 (nodeM e k (.mk 0 []) l).1.k, .int .i64 (nodeM e k (.mk 0 []) l).1.i, .int .i64 (nodeM e k (.mk 0 []) l).1.ty.k, .sl (List.map RT.cells (nodeM e k (.mk 0 []) l).1.ty.as) .dead, .sl (List.map RM.cells (nodeM e k (.mk 0 []) l).1.as) .dead], { S with σ := S.σ.set b [.int .i64 (nodeM e k (.mk 0 []) l).2] }) := by
  simpa using call_upD (cf := X.at g) (fn := Tryz.f89) (args' := [.int .i64 k, .sl (l.map RM.cells) o1]) (by kernel_rfl) rfl (by rfl) (by rfl) (by simp) (by simp; try rfl) (by simp) (by simp) (mjPlain e k l ht) S hS

theorem callM_snoc (e : Int) (f a : RM) (l : List RM) : callM e f (l ++ [a]) = nodeM (callM e f l).2 3 noTy [(callM e f l).1, a] := by simp [callM, List.foldl_append]
theorem nodes_two {b k : Int} {x y : RM} (hx : x.good b) (hy : y.good b) : (RM.mk k 0 (.mk 0 []) [x, y]).nodes ≤ 1000000000 := by
  have := hx.nodes
  have := hy.nodes
  simp only [RM.nodes_mk, RT.nodes_mk, List.map_cons, List.map_nil, List.sum_cons, List.sum_nil]
  omega
theorem nodes_one {b k : Int} {x : RM} (hx : x.good b) : (RM.mk k 0 (.mk 0 []) [x]).nodes ≤ 1000000000 := by
  have := hx.nodes
  simp only [RM.nodes_mk, RT.nodes_mk, List.map_cons, List.map_nil, List.sum_cons, List.sum_nil]
  omega
theorem nodes_oneT {b k m : Int} {us : List RT} {x : RM} (hs : (RT.mk m us).nodes ≤ 1000) (hx : x.good b) : (RM.mk k 0 (.mk m us) [x]).nodes ≤ 1000000000 := by
  have := hx.nodes
  simp only [RM.nodes_mk, List.map_cons, List.map_nil, List.sum_cons, List.sum_nil]
  omega
theorem mjCall (e : Int) (f : RM) (l : List RM) {b : Int} (hb : 0 ≤ b) (hf : f.good b) (hl : ∀ a ∈ l, a.good b) (hlen : l.length ≤ 1000) : den X E 93 [.loc 0 0, f.enc, .sl (l.map RM.cells) .dead] [[.int .i64 e]] = some ((callM e f l).1.enc, [[.int .i64 (callM e f l).2]]) := by
  refine den_w (fn := Tryz.f93) (σ1 := [[.int .i64 (callM e f l).2]]) (by rfl) (by rfl) (by kernel_rfl) rfl (by rfl) (by rfl) (by simp -implicitDefEqProofs) ?_
  simp -implicitDefEqProofs
  (repeat (first | refine Wp.seq ?_ | refine Wp.block ?_ | refine Wp.skip ?_ | refine Wp.exit ?_ | refine Wp.ret ?_ | refine thenK_n ?_ | refine thenK_r ?_ | refine thenK_e ?_ | refine blockK_n ?_ | refine blockK_r ?_ | refine blockK_e ?_ | refine blockK_o (by decide) ?_ | (refine Wp.condT ?_ ?_; focus (simp -implicitDefEqProofs <;> fail)) | (refine Wp.condF ?_ ?_; focus (simp -implicitDefEqProofs <;> fail)) | refine Wp.reg (by simp -implicitDefEqProofs; exact ⟨rfl, rfl⟩) ?_ | refine Wp.regA (by simp -implicitDefEqProofs; exact ⟨rfl, rfl⟩) (by rfl) ?_))
  refine Wp.loopF [8, 11, 12, 13, 14, 15, 16, 17, 18, 19, 20] [0, 1] (fun n w c tk => ∃ done rest, l = done ++ rest ∧ n = rest.length ∧ w 11 = .int .i64 done.length ∧ c 0 = [.int .i64 (callM e f done).2] ∧ c 1 = (callM e f done).1.cells) (l.length) ?_ ?_ ?_ ?_
  · rfl
  · rfl
  · exact ⟨[], l, by simp, rfl, rfl, rfl, by simp [callM]⟩
  rintro n w c junk tk r σ ⟨done, rest, hl', rfl, h11, h0, h1⟩ hr hσ
  simp -implicitDefEqProofs [h11, h0, h1] at hr hσ
  subst hr hσ
  cases rest with
  | nil =>
    simp at hl'
    subst hl'
    (repeat (first | refine Wp.seq ?_ | refine Wp.block ?_ | refine Wp.skip ?_ | refine Wp.exit ?_ | refine Wp.ret ?_ | refine thenK_n ?_ | refine thenK_r ?_ | refine thenK_e ?_ | refine blockK_n ?_ | refine blockK_r ?_ | refine blockK_e ?_ | refine blockK_o (by decide) ?_ | (refine Wp.condT ?_ ?_; focus (simp -implicitDefEqProofs <;> fail)) | (refine Wp.condF ?_ ?_; focus (simp -implicitDefEqProofs <;> fail)) | refine Wp.reg (by simp -implicitDefEqProofs; exact ⟨rfl, rfl⟩) ?_ | refine Wp.regA (by simp -implicitDefEqProofs; exact ⟨rfl, rfl⟩) (by rfl) ?_))
    (apply endK_r; (focus (simp -implicitDefEqProofs [Tryz.f93]; try rfl)); (focus (intro g; simp -implicitDefEqProofs [Tryz.f93])); exact ⟨_, rfl⟩)
  | cons a rest =>
    have ha : el l done.length = some a := by simp [hl']
    have hlt : done.length < l.length := by simp [hl']
    have hw : IntKind.i64.wrap ((done.length : Int) + 1) = done.length + 1 := IntWalk.i64_in _ (by omega)
    have hgd : (callM e f done).1.good b := good_call hb done e f hf (fun x hx => hl x (by rw [hl']; simp [hx]))
    have hga := hl a (by rw [hl']; simp)
    have c1 := mjPlain_c (E := E) (e := (callM e f done).2) (k := 3) (l := [(callM e f done).1, a]) (nodes_two hgd hga)
    simp at c1
    have hs := callM_snoc e f a done
    simp at hs
    (repeat (first | refine Wp.seq ?_ | refine Wp.block ?_ | refine Wp.skip ?_ | refine Wp.exit ?_ | refine Wp.ret ?_ | refine thenK_n ?_ | refine thenK_r ?_ | refine thenK_e ?_ | refine blockK_n ?_ | refine blockK_r ?_ | refine blockK_e ?_ | refine blockK_o (by decide) ?_ | (refine Wp.condT ?_ ?_; focus (simp -implicitDefEqProofs [ha, hlt, hw, c1] <;> fail)) | (refine Wp.condF ?_ ?_; focus (simp -implicitDefEqProofs [ha, hlt, hw, c1] <;> fail)) | refine Wp.reg (by simp -implicitDefEqProofs [ha, hlt, hw, c1]; exact ⟨rfl, rfl⟩) ?_ | refine Wp.regA (by simp -implicitDefEqProofs [ha, hlt, hw, c1]; exact ⟨rfl, rfl⟩) (by rfl) ?_))
    refine ⟨by simp, ⟨_, by simp -implicitDefEqProofs; rfl⟩, rest.length, by simp, done ++ [a], rest, by simp [hl'], rfl, by simp, by simp [hs], by simp [hs]⟩
theorem mjCall_c {b e k i m : Int} {us : List RT} {ts l : List RM} (hb : 0 ≤ b) (hf : (RM.mk k i (.mk m us) ts).good b) (hl : ∀ a ∈ l, a.good b) (hlen : l.length ≤ 1000) (g b : Nat) (S : St) (o1 o2 o3 : Own) (hS : sd S.σ b = some [.int .i64 e]) : callT (X.at g) (den X E) S 93 [.loc b 0, .agg [.int .i64 k, .int .i64 i, .int .i64 m, .sl (List.map RT.cells us) o1, .sl (List.map RM.cells ts) o2], .sl (l.map RM.cells) o3] = some (.agg [.int .i64 (callM e (RM.mk k i (.mk m us) ts) l).1.k, .int .i64 (callM e (RM.mk k i (.mk m us) ts) l).1.i, .int .i64 (callM e (RM.mk k i (.mk m us) ts) l).1.ty.k, .sl (List.map RT.cells (callM e (RM.mk k i (.mk m us) ts) l).1.ty.as) .dead, .sl (List.map RM.cells (callM e (RM.mk k i (.mk m us) ts) l).1.as) .dead], { S with σ := S.σ.set b [.int .i64 (callM e (RM.mk k i (.mk m us) ts) l).2] }) := by
  simpa using call_upD (cf := X.at g) (fn := Tryz.f93) (args' := [.agg [.int .i64 k, .int .i64 i, .int .i64 m, .sl (List.map RT.cells us) o1, .sl (List.map RM.cells ts) o2], .sl (l.map RM.cells) o3]) (by kernel_rfl) rfl (by rfl) (by rfl) (by simp) (by simp; try rfl) (by simp) (by simp) (mjCall e (RM.mk k i (.mk m us) ts) l hb hf hl hlen) S hS

theorem nodeM_zero (k : Int) (s : RT) (l : List RM) {e : Int} (he : e ≠ 0) : nodeM e k s l = (zeroM, e) := by unfold nodeM; rw [if_pos he]
theorem mjMax : ∀ (s : Ty) (e : Int) (x y : RM) {b : Int}, 1 ≤ b → b + s.size ≤ 1000000000 → s.size ≤ 64 → x.good b → y.good b →
    den X E 84 [.loc 0 0, s.raw.enc, x.enc, y.enc] [[.int .i64 e]] = some ((maxM s e x y).1.enc, [[.int .i64 (maxM s e x y).2]]) := by
  intro s
  induction s with
  | nat =>
    intro e x y b hb hbs hs hx hy
    by_cases he : e = 0
    · subst he
      have c1 := mjCall_c (E := E) (e := 0) (k := T.greater.raw.k) (i := T.greater.raw.i) (m := T.greater.raw.ty.k) (us := T.greater.raw.ty.as) (ts := T.greater.raw.as) (l := [x, y]) (b := b) (by omega) (by simpa using good_greater hb) (by intro z hz; simp at hz; rcases hz with rfl | rfl; exact hx; exact hy) (by simp)
      have hm : maxM .nat 0 x y = callM 0 T.greater.raw [x, y] := by simp [maxM]
      rw [hm]
      have c2 := v_greater_c (E := E)
      generalize T.greater.raw = gg at c1 c2
      simp [Ty.raw] at c1
      simp only [Ty.raw, RT.enc_eq, RT.k_mk, RT.as_mk]
      refine den_w (fn := Tryz.f84) (σ1 := [[.int .i64 (callM 0 gg [x, y]).2]]) (by rfl) (by rfl) (by kernel_rfl) rfl (by rfl) (by rfl) (by simp -implicitDefEqProofs) ?_
      simp -implicitDefEqProofs
      (repeat (first | refine Wp.seq ?_ | refine Wp.block ?_ | refine Wp.skip ?_ | refine Wp.exit ?_ | refine Wp.ret ?_ | refine thenK_n ?_ | refine thenK_r ?_ | refine thenK_e ?_ | refine blockK_n ?_ | refine blockK_r ?_ | refine blockK_e ?_ | refine blockK_o (by decide) ?_ | (refine Wp.condT ?_ ?_; focus (simp -implicitDefEqProofs [c1, c2] <;> fail)) | (refine Wp.condF ?_ ?_; focus (simp -implicitDefEqProofs [c1, c2] <;> fail)) | refine Wp.reg (by simp -implicitDefEqProofs [c1, c2]; exact ⟨rfl, rfl⟩) ?_ | refine Wp.regA (by simp -implicitDefEqProofs [c1, c2]; exact ⟨rfl, rfl⟩) (by rfl) ?_))
      (apply endK_r; (focus (simp -implicitDefEqProofs [Tryz.f84]; try rfl)); (focus (intro g; simp -implicitDefEqProofs [Tryz.f84])); exact ⟨_, rfl⟩)
    · have hm : maxM .nat e x y = (zeroM, e) := by simp [maxM, he]
      rw [hm]
      simp only [Ty.raw, RT.enc_eq, RT.k_mk, RT.as_mk]
      refine den_w (fn := Tryz.f84) (σ1 := [[.int .i64 e]]) (by rfl) (by rfl) (by kernel_rfl) rfl (by rfl) (by rfl) (by simp -implicitDefEqProofs) ?_
      simp -implicitDefEqProofs
      (repeat (first | refine Wp.seq ?_ | refine Wp.block ?_ | refine Wp.skip ?_ | refine Wp.exit ?_ | refine Wp.ret ?_ | refine thenK_n ?_ | refine thenK_r ?_ | refine thenK_e ?_ | refine blockK_n ?_ | refine blockK_r ?_ | refine blockK_e ?_ | refine blockK_o (by decide) ?_ | (refine Wp.condT ?_ ?_; focus (simp -implicitDefEqProofs [he] <;> fail)) | (refine Wp.condF ?_ ?_; focus (simp -implicitDefEqProofs [he] <;> fail)) | refine Wp.reg (by simp -implicitDefEqProofs [he]; exact ⟨rfl, rfl⟩) ?_ | refine Wp.regA (by simp -implicitDefEqProofs [he]; exact ⟨rfl, rfl⟩) (by rfl) ?_))
      (apply endK_r; (focus (simp -implicitDefEqProofs [Tryz.f84, zeroM]; try rfl)); (focus (intro g; simp -implicitDefEqProofs [Tryz.f84, zeroM])); exact ⟨_, rfl⟩)
  | list =>
    intro e x y b hb hbs hs hx hy
    by_cases he : e = 0
    · subst he
      have hm : maxM .list 0 x y = (unitM, 0) := by simp [maxM]
      rw [hm]
      simp only [Ty.raw, RT.enc_eq, RT.k_mk, RT.as_mk]
      refine den_w (fn := Tryz.f84) (σ1 := [[.int .i64 0]]) (by rfl) (by rfl) (by kernel_rfl) rfl (by rfl) (by rfl) (by simp -implicitDefEqProofs) ?_
      simp -implicitDefEqProofs
      (repeat (first | refine Wp.seq ?_ | refine Wp.block ?_ | refine Wp.skip ?_ | refine Wp.exit ?_ | refine Wp.ret ?_ | refine thenK_n ?_ | refine thenK_r ?_ | refine thenK_e ?_ | refine blockK_n ?_ | refine blockK_r ?_ | refine blockK_e ?_ | refine blockK_o (by decide) ?_ | (refine Wp.condT ?_ ?_; focus (simp -implicitDefEqProofs [scUnit_c] <;> fail)) | (refine Wp.condF ?_ ?_; focus (simp -implicitDefEqProofs [scUnit_c] <;> fail)) | refine Wp.reg (by simp -implicitDefEqProofs [scUnit_c]; exact ⟨rfl, rfl⟩) ?_ | refine Wp.regA (by simp -implicitDefEqProofs [scUnit_c]; exact ⟨rfl, rfl⟩) (by rfl) ?_))
      (apply endK_r; (focus (simp -implicitDefEqProofs [Tryz.f84, unitM]; try rfl)); (focus (intro g; simp -implicitDefEqProofs [Tryz.f84, unitM])); exact ⟨_, rfl⟩)
    · have hm : maxM .list e x y = (zeroM, e) := by simp [maxM, he]
      rw [hm]
      simp only [Ty.raw, RT.enc_eq, RT.k_mk, RT.as_mk]
      refine den_w (fn := Tryz.f84) (σ1 := [[.int .i64 e]]) (by rfl) (by rfl) (by kernel_rfl) rfl (by rfl) (by rfl) (by simp -implicitDefEqProofs) ?_
      simp -implicitDefEqProofs
      (repeat (first | refine Wp.seq ?_ | refine Wp.block ?_ | refine Wp.skip ?_ | refine Wp.exit ?_ | refine Wp.ret ?_ | refine thenK_n ?_ | refine thenK_r ?_ | refine thenK_e ?_ | refine blockK_n ?_ | refine blockK_r ?_ | refine blockK_e ?_ | refine blockK_o (by decide) ?_ | (refine Wp.condT ?_ ?_; focus (simp -implicitDefEqProofs [he] <;> fail)) | (refine Wp.condF ?_ ?_; focus (simp -implicitDefEqProofs [he] <;> fail)) | refine Wp.reg (by simp -implicitDefEqProofs [he]; exact ⟨rfl, rfl⟩) ?_ | refine Wp.regA (by simp -implicitDefEqProofs [he]; exact ⟨rfl, rfl⟩) (by rfl) ?_))
      (apply endK_r; (focus (simp -implicitDefEqProofs [Tryz.f84, zeroM]; try rfl)); (focus (intro g; simp -implicitDefEqProofs [Tryz.f84, zeroM])); exact ⟨_, rfl⟩)
  | unit =>
    intro e x y b hb hbs hs hx hy
    by_cases he : e = 0
    · subst he
      have hm : maxM .unit 0 x y = (unitM, 0) := by simp [maxM]
      rw [hm]
      simp only [Ty.raw, RT.enc_eq, RT.k_mk, RT.as_mk]
      refine den_w (fn := Tryz.f84) (σ1 := [[.int .i64 0]]) (by rfl) (by rfl) (by kernel_rfl) rfl (by rfl) (by rfl) (by simp -implicitDefEqProofs) ?_
      simp -implicitDefEqProofs
      (repeat (first | refine Wp.seq ?_ | refine Wp.block ?_ | refine Wp.skip ?_ | refine Wp.exit ?_ | refine Wp.ret ?_ | refine thenK_n ?_ | refine thenK_r ?_ | refine thenK_e ?_ | refine blockK_n ?_ | refine blockK_r ?_ | refine blockK_e ?_ | refine blockK_o (by decide) ?_ | (refine Wp.condT ?_ ?_; focus (simp -implicitDefEqProofs [scUnit_c] <;> fail)) | (refine Wp.condF ?_ ?_; focus (simp -implicitDefEqProofs [scUnit_c] <;> fail)) | refine Wp.reg (by simp -implicitDefEqProofs [scUnit_c]; exact ⟨rfl, rfl⟩) ?_ | refine Wp.regA (by simp -implicitDefEqProofs [scUnit_c]; exact ⟨rfl, rfl⟩) (by rfl) ?_))
      (apply endK_r; (focus (simp -implicitDefEqProofs [Tryz.f84, unitM]; try rfl)); (focus (intro g; simp -implicitDefEqProofs [Tryz.f84, unitM])); exact ⟨_, rfl⟩)
    · have hm : maxM .unit e x y = (zeroM, e) := by simp [maxM, he]
      rw [hm]
      simp only [Ty.raw, RT.enc_eq, RT.k_mk, RT.as_mk]
      refine den_w (fn := Tryz.f84) (σ1 := [[.int .i64 e]]) (by rfl) (by rfl) (by kernel_rfl) rfl (by rfl) (by rfl) (by simp -implicitDefEqProofs) ?_
      simp -implicitDefEqProofs
      (repeat (first | refine Wp.seq ?_ | refine Wp.block ?_ | refine Wp.skip ?_ | refine Wp.exit ?_ | refine Wp.ret ?_ | refine thenK_n ?_ | refine thenK_r ?_ | refine thenK_e ?_ | refine blockK_n ?_ | refine blockK_r ?_ | refine blockK_e ?_ | refine blockK_o (by decide) ?_ | (refine Wp.condT ?_ ?_; focus (simp -implicitDefEqProofs [he] <;> fail)) | (refine Wp.condF ?_ ?_; focus (simp -implicitDefEqProofs [he] <;> fail)) | refine Wp.reg (by simp -implicitDefEqProofs [he]; exact ⟨rfl, rfl⟩) ?_ | refine Wp.regA (by simp -implicitDefEqProofs [he]; exact ⟨rfl, rfl⟩) (by rfl) ?_))
      (apply endK_r; (focus (simp -implicitDefEqProofs [Tryz.f84, zeroM]; try rfl)); (focus (intro g; simp -implicitDefEqProofs [Tryz.f84, zeroM])); exact ⟨_, rfl⟩)
  | pair s u ih1 ih2 =>
    intro e x y b hb hbs hs hx hy
    simp only [Ty.size] at hs hbs
    by_cases he : e = 0
    · subst he
      obtain ⟨p1, hp1⟩ : ∃ p, p = nodeM 0 11 noTy [x] := ⟨_, rfl⟩
      obtain ⟨p2, hp2⟩ : ∃ p, p = nodeM p1.2 11 noTy [y] := ⟨_, rfl⟩
      obtain ⟨p3, hp3⟩ : ∃ p, p = maxM s p2.2 p1.1 p2.1 := ⟨_, rfl⟩
      obtain ⟨p4, hp4⟩ : ∃ p, p = nodeM p3.2 12 noTy [x] := ⟨_, rfl⟩
      obtain ⟨p5, hp5⟩ : ∃ p, p = nodeM p4.2 12 noTy [y] := ⟨_, rfl⟩
      obtain ⟨p6, hp6⟩ : ∃ p, p = maxM u p5.2 p4.1 p5.1 := ⟨_, rfl⟩
      have hm : maxM (.pair s u) 0 x y = nodeM p6.2 10 noTy [p3.1, p6.1] := by rw [hp6, hp5, hp4, hp3, hp2, hp1]; simp [maxM]
      rw [hm]
      have hn : ∀ (e k : Int) (z : RM), z.good b → (nodeM e k noTy [z]).1.good b := fun e k z hz => good_node (by omega) (by rw [noTy_nodes]; omega) (by intro w hw; simp at hw; subst hw; exact hz)
      have g1 : p1.1.good b := by rw [hp1]; exact hn _ _ _ hx
      have g2 : p2.1.good b := by rw [hp2]; exact hn _ _ _ hy
      have g4 : p4.1.good b := by rw [hp4]; exact hn _ _ _ hx
      have g5 : p5.1.good b := by rw [hp5]; exact hn _ _ _ hy
      have g3 : p3.1.good (b + 64) := by rw [hp3]; exact RM.good.mono (by omega) (good_max s b _ _ _ hb (by omega) g1 g2)
      have g6 : p6.1.good (b + 64) := by rw [hp6]; exact RM.good.mono (by omega) (good_max u b _ _ _ hb (by omega) g4 g5)
      have c1 := mjPlain_c (E := E) (e := 0) (k := 11) (l := [x]) (nodes_one hx)
      have c2 := mjPlain_c (E := E) (e := p1.2) (k := 11) (l := [y]) (nodes_one hy)
      have c4 := mjPlain_c (E := E) (e := p3.2) (k := 12) (l := [x]) (nodes_one hx)
      have c5 := mjPlain_c (E := E) (e := p4.2) (k := 12) (l := [y]) (nodes_one hy)
      have c7 := mjPlain_c (E := E) (e := p6.2) (k := 10) (l := [p3.1, p6.1]) (nodes_two g3 g6)
      have c3 : ∀ (g b : Nat) (S : St) (o1 o2 o3 o4 o5 : Own), sd S.σ b = some [.int .i64 p2.2] → callT (X.at g) (den X E) S 84 [.loc b 0, .agg [.int .i64 s.raw.k, .sl (List.map RT.cells s.raw.as) o1], .agg [.int .i64 p1.1.k, .int .i64 p1.1.i, .int .i64 p1.1.ty.k, .sl (List.map RT.cells p1.1.ty.as) o2, .sl (List.map RM.cells p1.1.as) o3], .agg [.int .i64 p2.1.k, .int .i64 p2.1.i, .int .i64 p2.1.ty.k, .sl (List.map RT.cells p2.1.ty.as) o4, .sl (List.map RM.cells p2.1.as) o5]] = some (.agg [.int .i64 (maxM s p2.2 p1.1 p2.1).1.k, .int .i64 (maxM s p2.2 p1.1 p2.1).1.i, .int .i64 (maxM s p2.2 p1.1 p2.1).1.ty.k, .sl (List.map RT.cells (maxM s p2.2 p1.1 p2.1).1.ty.as) .dead, .sl (List.map RM.cells (maxM s p2.2 p1.1 p2.1).1.as) .dead], { S with σ := S.σ.set b [.int .i64 (maxM s p2.2 p1.1 p2.1).2] }) := by
        intros
        rename_i hS
        simpa using call_upD (cf := X.at _) (fn := Tryz.f84) (args' := [_, _, _]) (by kernel_rfl) rfl (by rfl) (by rfl) (by simp) (by simp; try rfl) (by simp) (by simp) (ih1 p2.2 p1.1 p2.1 hb (by omega) (by omega) g1 g2) _ hS
      have c6 : ∀ (g b : Nat) (S : St) (o1 o2 o3 o4 o5 : Own), sd S.σ b = some [.int .i64 p5.2] → callT (X.at g) (den X E) S 84 [.loc b 0, .agg [.int .i64 u.raw.k, .sl (List.map RT.cells u.raw.as) o1], .agg [.int .i64 p4.1.k, .int .i64 p4.1.i, .int .i64 p4.1.ty.k, .sl (List.map RT.cells p4.1.ty.as) o2, .sl (List.map RM.cells p4.1.as) o3], .agg [.int .i64 p5.1.k, .int .i64 p5.1.i, .int .i64 p5.1.ty.k, .sl (List.map RT.cells p5.1.ty.as) o4, .sl (List.map RM.cells p5.1.as) o5]] = some (.agg [.int .i64 (maxM u p5.2 p4.1 p5.1).1.k, .int .i64 (maxM u p5.2 p4.1 p5.1).1.i, .int .i64 (maxM u p5.2 p4.1 p5.1).1.ty.k, .sl (List.map RT.cells (maxM u p5.2 p4.1 p5.1).1.ty.as) .dead, .sl (List.map RM.cells (maxM u p5.2 p4.1 p5.1).1.as) .dead], { S with σ := S.σ.set b [.int .i64 (maxM u p5.2 p4.1 p5.1).2] }) := by
        intros
        rename_i hS
        simpa using call_upD (cf := X.at _) (fn := Tryz.f84) (args' := [_, _, _]) (by kernel_rfl) rfl (by rfl) (by rfl) (by simp) (by simp; try rfl) (by simp) (by simp) (ih2 p5.2 p4.1 p5.1 hb (by omega) (by omega) g4 g5) _ hS
      have n1 : nodeM 0 11 (RT.mk 0 []) [x] = p1 := hp1.symm
      have n2 : nodeM p1.2 11 (RT.mk 0 []) [y] = p2 := hp2.symm
      have n4 : nodeM p3.2 12 (RT.mk 0 []) [x] = p4 := hp4.symm
      have n5 : nodeM p4.2 12 (RT.mk 0 []) [y] = p5 := hp5.symm
      simp [n1] at c1
      simp [n2] at c2
      simp [← hp3] at c3
      simp [n4] at c4
      simp [n5] at c5
      simp [← hp6] at c6
      simp at c7
      simp only [Ty.raw, RT.enc_eq, RT.k_mk, RT.as_mk]
      clear ih1 ih2 hp1 hp2 hp3 hp4 hp5 hp6 n1 n2 n4 n5 hm
      refine den_w (fn := Tryz.f84) (σ1 := [[.int .i64 (nodeM p6.2 10 noTy [p3.1, p6.1]).2]]) (by rfl) (by rfl) (by kernel_rfl) rfl (by rfl) (by rfl) (by simp -implicitDefEqProofs) ?_
      simp -implicitDefEqProofs
      (repeat (first | refine Wp.seq ?_ | refine Wp.block ?_ | refine Wp.skip ?_ | refine Wp.exit ?_ | refine Wp.ret ?_ | refine thenK_n ?_ | refine thenK_r ?_ | refine thenK_e ?_ | refine blockK_n ?_ | refine blockK_r ?_ | refine blockK_e ?_ | refine blockK_o (by decide) ?_ | (refine Wp.condT ?_ ?_; focus (simp -implicitDefEqProofs [c1, c2, c3, c4, c5, c6, c7] <;> fail)) | (refine Wp.condF ?_ ?_; focus (simp -implicitDefEqProofs [c1, c2, c3, c4, c5, c6, c7] <;> fail)) | refine Wp.reg (by simp -implicitDefEqProofs [c1, c2, c3, c4, c5, c6, c7]; exact ⟨rfl, rfl⟩) ?_ | refine Wp.regA (by simp -implicitDefEqProofs [c1, c2, c3, c4, c5, c6, c7]; exact ⟨rfl, rfl⟩) (by rfl) ?_))
      (apply endK_r; (focus (simp -implicitDefEqProofs [Tryz.f84]; try rfl)); (focus (intro g; simp -implicitDefEqProofs [Tryz.f84])); exact ⟨_, rfl⟩)
    · have hm : maxM (.pair s u) e x y = (zeroM, e) := by simp [maxM, he]
      rw [hm]
      simp only [Ty.raw, RT.enc_eq, RT.k_mk, RT.as_mk]
      refine den_w (fn := Tryz.f84) (σ1 := [[.int .i64 e]]) (by rfl) (by rfl) (by kernel_rfl) rfl (by rfl) (by rfl) (by simp -implicitDefEqProofs) ?_
      simp -implicitDefEqProofs
      (repeat (first | refine Wp.seq ?_ | refine Wp.block ?_ | refine Wp.skip ?_ | refine Wp.exit ?_ | refine Wp.ret ?_ | refine thenK_n ?_ | refine thenK_r ?_ | refine thenK_e ?_ | refine blockK_n ?_ | refine blockK_r ?_ | refine blockK_e ?_ | refine blockK_o (by decide) ?_ | (refine Wp.condT ?_ ?_; focus (simp -implicitDefEqProofs [he] <;> fail)) | (refine Wp.condF ?_ ?_; focus (simp -implicitDefEqProofs [he] <;> fail)) | refine Wp.reg (by simp -implicitDefEqProofs [he]; exact ⟨rfl, rfl⟩) ?_ | refine Wp.regA (by simp -implicitDefEqProofs [he]; exact ⟨rfl, rfl⟩) (by rfl) ?_))
      (apply endK_r; (focus (simp -implicitDefEqProofs [Tryz.f84, zeroM]; try rfl)); (focus (intro g; simp -implicitDefEqProofs [Tryz.f84, zeroM])); exact ⟨_, rfl⟩)
  | fn s u ih1 ih2 =>
    intro e x y b hb hbs hs hx hy
    simp only [Ty.size] at hs hbs
    by_cases he : e = 0
    · subst he
      obtain ⟨p1, hp1⟩ : ∃ p, p = callM 0 (x.lift 1 0) [varM 0] := ⟨_, rfl⟩
      obtain ⟨p2, hp2⟩ : ∃ p, p = callM p1.2 (y.lift 1 0) [varM 0] := ⟨_, rfl⟩
      obtain ⟨p3, hp3⟩ : ∃ p, p = maxM u p2.2 p1.1 p2.1 := ⟨_, rfl⟩
      have hm : maxM (.fn s u) 0 x y = nodeM p3.2 2 s.raw [p3.1] := by rw [hp3, hp2, hp1]; simp [maxM]
      rw [hm]
      have gx : (x.lift 1 0).good (b + 1) := hx.lift (by omega) 0
      have gy : (y.lift 1 0).good (b + 1) := hy.lift (by omega) 0
      have gv : ∀ z ∈ [varM 0], z.good (b + 1) := by intro z hz; simp at hz; subst hz; exact good_var (by omega)
      have g1 : p1.1.good (b + 1) := by rw [hp1]; exact good_call (by omega) _ _ _ gx gv
      have g2 : p2.1.good (b + 1) := by rw [hp2]; exact good_call (by omega) _ _ _ gy gv
      have g3 : p3.1.good (b + 1 + u.size) := by rw [hp3]; exact good_max u (b + 1) _ _ _ (by omega) (by omega) g1 g2
      have l1 := scLift_c (E := E) (n := 1) (c := 0) (k := x.k) (i := x.i) (m := x.ty.k) (us := x.ty.as) (ts := x.as) (by omega) (by have := hx.nodes; simp; omega) (by simpa using RM.idx_mono (by omega) x hx.2.1) (by omega)
      have l2 := scLift_c (E := E) (n := 1) (c := 0) (k := y.k) (i := y.i) (m := y.ty.k) (us := y.ty.as) (ts := y.as) (by omega) (by have := hy.nodes; simp; omega) (by simpa using RM.idx_mono (by omega) y hy.2.1) (by omega)
      obtain ⟨x', hx'⟩ : ∃ p, p = x.lift 1 0 := ⟨_, rfl⟩
      obtain ⟨y', hy'⟩ : ∃ p, p = y.lift 1 0 := ⟨_, rfl⟩
      rw [← hx'] at gx hp1
      rw [← hy'] at gy hp2
      have c1 := mjCall_c (E := E) (e := 0) (k := x'.k) (i := x'.i) (m := x'.ty.k) (us := x'.ty.as) (ts := x'.as) (l := [varM 0]) (b := b + 1) (by omega) (by simpa using gx) gv (by simp)
      have c2 := mjCall_c (E := E) (e := p1.2) (k := y'.k) (i := y'.i) (m := y'.ty.k) (us := y'.ty.as) (ts := y'.as) (l := [varM 0]) (b := b + 1) (by omega) (by simpa using gy) gv (by simp)
      have c3 : ∀ (g b : Nat) (S : St) (o1 o2 o3 o4 o5 : Own), sd S.σ b = some [.int .i64 p2.2] → callT (X.at g) (den X E) S 84 [.loc b 0, .agg [.int .i64 u.raw.k, .sl (List.map RT.cells u.raw.as) o1], .agg [.int .i64 p1.1.k, .int .i64 p1.1.i, .int .i64 p1.1.ty.k, .sl (List.map RT.cells p1.1.ty.as) o2, .sl (List.map RM.cells p1.1.as) o3], .agg [.int .i64 p2.1.k, .int .i64 p2.1.i, .int .i64 p2.1.ty.k, .sl (List.map RT.cells p2.1.ty.as) o4, .sl (List.map RM.cells p2.1.as) o5]] = some (.agg [.int .i64 (maxM u p2.2 p1.1 p2.1).1.k, .int .i64 (maxM u p2.2 p1.1 p2.1).1.i, .int .i64 (maxM u p2.2 p1.1 p2.1).1.ty.k, .sl (List.map RT.cells (maxM u p2.2 p1.1 p2.1).1.ty.as) .dead, .sl (List.map RM.cells (maxM u p2.2 p1.1 p2.1).1.as) .dead], { S with σ := S.σ.set b [.int .i64 (maxM u p2.2 p1.1 p2.1).2] }) := by
        intros
        rename_i hS
        simpa using call_upD (cf := X.at _) (fn := Tryz.f84) (args' := [_, _, _]) (by kernel_rfl) rfl (by rfl) (by rfl) (by simp) (by simp; try rfl) (by simp) (by simp) (ih2 p2.2 p1.1 p2.1 (b := b + 1) (by omega) (by omega) (by omega) g1 g2) _ hS
      have c4 := mjNode_c (E := E) (e := p3.2) (k := 2) (m := s.raw.k) (us := s.raw.as) (l := [p3.1]) (nodes_oneT (by simp [Ty.raw_nodes]; omega) g3)
      simp [← hx'] at l1
      simp [← hy'] at l2
      simp [← hp1] at c1
      simp [← hp2] at c2
      simp [← hp3] at c3
      simp at c4
      simp [varM] at c1 c2
      simp only [Ty.raw, RT.enc_eq, RT.k_mk, RT.as_mk]
      clear ih1 ih2 hp1 hp2 hp3 hm
      refine den_w (fn := Tryz.f84) (σ1 := [[.int .i64 (nodeM p3.2 2 s.raw [p3.1]).2]]) (by rfl) (by rfl) (by kernel_rfl) rfl (by rfl) (by rfl) (by simp -implicitDefEqProofs) ?_
      simp -implicitDefEqProofs
      (repeat (first | refine Wp.seq ?_ | refine Wp.block ?_ | refine Wp.skip ?_ | refine Wp.exit ?_ | refine Wp.ret ?_ | refine thenK_n ?_ | refine thenK_r ?_ | refine thenK_e ?_ | refine blockK_n ?_ | refine blockK_r ?_ | refine blockK_e ?_ | refine blockK_o (by decide) ?_ | (refine Wp.condT ?_ ?_; focus (simp -implicitDefEqProofs [scVar_c, l1, l2, c1, c2, c3, c4] <;> fail)) | (refine Wp.condF ?_ ?_; focus (simp -implicitDefEqProofs [scVar_c, l1, l2, c1, c2, c3, c4] <;> fail)) | refine Wp.reg (by simp -implicitDefEqProofs [scVar_c, l1, l2, c1, c2, c3, c4]; exact ⟨rfl, rfl⟩) ?_ | refine Wp.regA (by simp -implicitDefEqProofs [scVar_c, l1, l2, c1, c2, c3, c4]; exact ⟨rfl, rfl⟩) (by rfl) ?_))
      (apply endK_r; (focus (simp -implicitDefEqProofs [Tryz.f84]; try rfl)); (focus (intro g; simp -implicitDefEqProofs [Tryz.f84])); exact ⟨_, rfl⟩)
    · have hm : maxM (.fn s u) e x y = (zeroM, e) := by simp [maxM, he]
      rw [hm]
      simp only [Ty.raw, RT.enc_eq, RT.k_mk, RT.as_mk]
      refine den_w (fn := Tryz.f84) (σ1 := [[.int .i64 e]]) (by rfl) (by rfl) (by kernel_rfl) rfl (by rfl) (by rfl) (by simp -implicitDefEqProofs) ?_
      simp -implicitDefEqProofs
      (repeat (first | refine Wp.seq ?_ | refine Wp.block ?_ | refine Wp.skip ?_ | refine Wp.exit ?_ | refine Wp.ret ?_ | refine thenK_n ?_ | refine thenK_r ?_ | refine thenK_e ?_ | refine blockK_n ?_ | refine blockK_r ?_ | refine blockK_e ?_ | refine blockK_o (by decide) ?_ | (refine Wp.condT ?_ ?_; focus (simp -implicitDefEqProofs [he] <;> fail)) | (refine Wp.condF ?_ ?_; focus (simp -implicitDefEqProofs [he] <;> fail)) | refine Wp.reg (by simp -implicitDefEqProofs [he]; exact ⟨rfl, rfl⟩) ?_ | refine Wp.regA (by simp -implicitDefEqProofs [he]; exact ⟨rfl, rfl⟩) (by rfl) ?_))
      (apply endK_r; (focus (simp -implicitDefEqProofs [Tryz.f84, zeroM]; try rfl)); (focus (intro g; simp -implicitDefEqProofs [Tryz.f84, zeroM])); exact ⟨_, rfl⟩)
theorem mjMax_c {b e k i m k' i' m' : Int} {s : Ty} {us us' : List RT} {ts ts' : List RM} (hb : 1 ≤ b) (hbs : b ≤ 500000000) (hs : s.size ≤ 64) (hx : (RM.mk k i (.mk m us) ts).good b) (hy : (RM.mk k' i' (.mk m' us') ts').good b) (g b : Nat) (S : St) (o1 o2 o3 o4 o5 : Own) (hS : sd S.σ b = some [.int .i64 e]) : callT (X.at g) (den X E) S 84 [.loc b 0, .agg [.int .i64 s.raw.k, .sl (List.map RT.cells s.raw.as) o1], .agg [.int .i64 k, .int .i64 i, .int .i64 m, .sl (List.map RT.cells us) o2, .sl (List.map RM.cells ts) o3], .agg [.int .i64 k', .int .i64 i', .int .i64 m', .sl (List.map RT.cells us') o4, .sl (List.map RM.cells ts') o5]] = some (.agg [.int .i64 (maxM s e (RM.mk k i (.mk m us) ts) (RM.mk k' i' (.mk m' us') ts')).1.k, .int .i64 (maxM s e (RM.mk k i (.mk m us) ts) (RM.mk k' i' (.mk m' us') ts')).1.i, .int .i64 (maxM s e (RM.mk k i (.mk m us) ts) (RM.mk k' i' (.mk m' us') ts')).1.ty.k, .sl (List.map RT.cells (maxM s e (RM.mk k i (.mk m us) ts) (RM.mk k' i' (.mk m' us') ts')).1.ty.as) .dead, .sl (List.map RM.cells (maxM s e (RM.mk k i (.mk m us) ts) (RM.mk k' i' (.mk m' us') ts')).1.as) .dead], { S with σ := S.σ.set b [.int .i64 (maxM s e (RM.mk k i (.mk m us) ts) (RM.mk k' i' (.mk m' us') ts')).2] }) := by
  simpa using call_upD (cf := X.at g) (fn := Tryz.f84) (args' := [.agg [.int .i64 s.raw.k, .sl (List.map RT.cells s.raw.as) o1], .agg [.int .i64 k, .int .i64 i, .int .i64 m, .sl (List.map RT.cells us) o2, .sl (List.map RM.cells ts) o3], .agg [.int .i64 k', .int .i64 i', .int .i64 m', .sl (List.map RT.cells us') o4, .sl (List.map RM.cells ts') o5]]) (by kernel_rfl) rfl (by rfl) (by rfl) (by simp) (by simp; try rfl) (by simp) (by simp) (mjMax s e (RM.mk k i (.mk m us) ts) (RM.mk k' i' (.mk m' us') ts') hb (by omega) hs hx hy) S hS

theorem mjStep (s : Ty) (e : Int) (x : RM) {b : Int} (hb : 1 ≤ b) (hbs : b ≤ 500000000) (hs : s.size ≤ 64) (hx : x.good b) :
    den X E 92 [.loc 0 0, s.raw.enc, x.enc] [[.int .i64 e]] = some ((stepM s e x).1.enc, [[.int .i64 (stepM s e x).2]]) := by
  obtain ⟨p1, hp1⟩ : ∃ p, p = maxM s e (varM 0) x := ⟨_, rfl⟩
  obtain ⟨p2, hp2⟩ : ∃ p, p = nodeM p1.2 2 s.raw [p1.1] := ⟨_, rfl⟩
  have hm : stepM s e x = nodeM p2.2 2 (RT.mk 1 []) [p2.1] := by rw [hp2, hp1]; rfl
  rw [hm]
  have g1 : p1.1.good (b + s.size) := by rw [hp1]; exact good_max s b _ _ _ hb hs (good_var (by omega)) hx
  have g2 : p2.1.good (b + s.size) := by rw [hp2]; exact good_node (by omega) (by rw [Ty.raw_nodes]; omega) (by intro w hw; simp at hw; subst hw; exact g1)
  have c1 := mjMax_c (E := E) (e := e) (b := b) (s := s) (k := 1) (i := 0) (m := 0) (us := []) (ts := []) (k' := x.k) (i' := x.i) (m' := x.ty.k) (us' := x.ty.as) (ts' := x.as) hb hbs hs (good_var (by omega)) (by simpa using hx)
  have c2 := mjNode_c (E := E) (e := p1.2) (k := 2) (m := s.raw.k) (us := s.raw.as) (l := [p1.1]) (nodes_oneT (by simp [Ty.raw_nodes]; omega) g1)
  have c3 := mjNode_c (E := E) (e := p2.2) (k := 2) (m := 1) (us := []) (l := [p2.1]) (nodes_oneT (by simp [RT.nodes_mk]) g2)
  have e1 : maxM s e (RM.mk 1 0 (RT.mk 0 []) []) x = p1 := hp1.symm
  simp [e1] at c1
  simp [← hp2] at c2
  simp at c3
  clear hp1 hp2 hm e1
  refine den_w (fn := Tryz.f92) (σ1 := [[.int .i64 (nodeM p2.2 2 (RT.mk 1 []) [p2.1]).2]]) (by rfl) (by rfl) (by kernel_rfl) rfl (by rfl) (by rfl) (by simp -implicitDefEqProofs) ?_
  simp -implicitDefEqProofs
  (repeat (first | refine Wp.seq ?_ | refine Wp.block ?_ | refine Wp.skip ?_ | refine Wp.exit ?_ | refine Wp.ret ?_ | refine thenK_n ?_ | refine thenK_r ?_ | refine thenK_e ?_ | refine blockK_n ?_ | refine blockK_r ?_ | refine blockK_e ?_ | refine blockK_o (by decide) ?_ | (refine Wp.condT ?_ ?_; focus (simp -implicitDefEqProofs [scVar_c, scNat_c, c1, c2, c3] <;> fail)) | (refine Wp.condF ?_ ?_; focus (simp -implicitDefEqProofs [scVar_c, scNat_c, c1, c2, c3] <;> fail)) | refine Wp.reg (by simp -implicitDefEqProofs [scVar_c, scNat_c, c1, c2, c3]; exact ⟨rfl, rfl⟩) ?_ | refine Wp.regA (by simp -implicitDefEqProofs [scVar_c, scNat_c, c1, c2, c3]; exact ⟨rfl, rfl⟩) (by rfl) ?_))
  (apply endK_r; (focus (simp -implicitDefEqProofs [Tryz.f92]; try rfl)); (focus (intro g; simp -implicitDefEqProofs [Tryz.f92])); exact ⟨_, rfl⟩)
theorem mjStep_c {b e k i m : Int} {s : Ty} {us : List RT} {ts : List RM} (hb : 1 ≤ b) (hbs : b ≤ 500000000) (hs : s.size ≤ 64) (hx : (RM.mk k i (.mk m us) ts).good b) (g b : Nat) (S : St) (o1 o2 o3 : Own) (hS : sd S.σ b = some [.int .i64 e]) : callT (X.at g) (den X E) S 92 [.loc b 0, .agg [.int .i64 s.raw.k, .sl (List.map RT.cells s.raw.as) o1], .agg [.int .i64 k, .int .i64 i, .int .i64 m, .sl (List.map RT.cells us) o2, .sl (List.map RM.cells ts) o3]] = some (.agg [.int .i64 (stepM s e (RM.mk k i (.mk m us) ts)).1.k, .int .i64 (stepM s e (RM.mk k i (.mk m us) ts)).1.i, .int .i64 (stepM s e (RM.mk k i (.mk m us) ts)).1.ty.k, .sl (List.map RT.cells (stepM s e (RM.mk k i (.mk m us) ts)).1.ty.as) .dead, .sl (List.map RM.cells (stepM s e (RM.mk k i (.mk m us) ts)).1.as) .dead], { S with σ := S.σ.set b [.int .i64 (stepM s e (RM.mk k i (.mk m us) ts)).2] }) := by
  simpa using call_upD (cf := X.at g) (fn := Tryz.f92) (args' := [.agg [.int .i64 s.raw.k, .sl (List.map RT.cells s.raw.as) o1], .agg [.int .i64 k, .int .i64 i, .int .i64 m, .sl (List.map RT.cells us) o2, .sl (List.map RM.cells ts) o3]]) (by kernel_rfl) rfl (by rfl) (by rfl) (by simp) (by simp; try rfl) (by simp) (by simp) (mjStep s e (RM.mk k i (.mk m us) ts) hb hbs hs hx) S hS
end M
end Go.Proofs.YthclcchnodjjpaaGreatDoor
