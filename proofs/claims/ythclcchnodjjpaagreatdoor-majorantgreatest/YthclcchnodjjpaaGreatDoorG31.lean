/- A part of the proof: DkA, DkB, CaB, LwC. -/
import Derived.Test.YthclcchnodjjpaaGreatDoorG23
import Derived.Test.YthclcchnodjjpaaGreatDoorG11
import Derived.Test.YthclcchnodjjpaaGreatDoorG25
import Derived.Test.YthclcchnodjjpaaGreatDoorG28
/- Small terms of ref23, ref24, play; make.Plain, make.Value; law33.limits. -/
set_option linter.unusedVariables false
set_option linter.unusedSimpArgs false
set_option maxRecDepth 10000
set_option maxHeartbeats 4000000
namespace Go.Proofs.YthclcchnodjjpaaGreatDoor
namespace M
attribute [local irreducible] Wp thenK blockK endK
variable {E : Oracle}
open T (V Ty Tm noTy)
attribute [local simp] noTy
theorem pNat23 : den X E 81 [] [] = some ((RT.mk 1 []).enc, []) := by
  refine den_w0 (fn := Tryz.f81) (by rfl) (by rfl) (by kernel_rfl) rfl (by rfl) ?_
  simp -implicitDefEqProofs
  (repeat (first | refine Wp.seq ?_ | refine Wp.block ?_ | refine Wp.skip ?_ | refine Wp.exit ?_ | refine Wp.ret ?_ | refine thenK_n ?_ | refine thenK_r ?_ | refine thenK_e ?_ | refine blockK_n ?_ | refine blockK_r ?_ | refine blockK_e ?_ | refine blockK_o (by decide) ?_ | (refine Wp.condT ?_ ?_; focus (simp -implicitDefEqProofs <;> fail)) | (refine Wp.condF ?_ ?_; focus (simp -implicitDefEqProofs <;> fail)) | refine Wp.reg (by simp -implicitDefEqProofs; exact ⟨rfl, rfl⟩) ?_ | refine Wp.regA (by simp -implicitDefEqProofs; exact ⟨rfl, rfl⟩) (by rfl) ?_))
  (apply endK_r; (focus (simp -implicitDefEqProofs [Tryz.f81]; try rfl)); (focus (intro g; simp -implicitDefEqProofs [Tryz.f81])); exact ⟨_, rfl⟩)
theorem pNat23_c  (g : Nat) (S : St)  : callT (X.at g) (den X E) S 81 [] = some (.agg [.int .i64 1, .sl (List.map RT.cells []) .dead], S) := by
  simpa using call_up (cf := X.at g) (fn := Tryz.f81) (args' := []) (by kernel_rfl) (by simp) (by simp; try rfl) (pNat23) S
theorem pUnit23 : den X E 32 [] [] = some ((RT.mk 5 []).enc, []) := by
  refine den_w0 (fn := Tryz.f32) (by rfl) (by rfl) (by kernel_rfl) rfl (by rfl) ?_
  simp -implicitDefEqProofs
  (repeat (first | refine Wp.seq ?_ | refine Wp.block ?_ | refine Wp.skip ?_ | refine Wp.exit ?_ | refine Wp.ret ?_ | refine thenK_n ?_ | refine thenK_r ?_ | refine thenK_e ?_ | refine blockK_n ?_ | refine blockK_r ?_ | refine blockK_e ?_ | refine blockK_o (by decide) ?_ | (refine Wp.condT ?_ ?_; focus (simp -implicitDefEqProofs <;> fail)) | (refine Wp.condF ?_ ?_; focus (simp -implicitDefEqProofs <;> fail)) | refine Wp.reg (by simp -implicitDefEqProofs; exact ⟨rfl, rfl⟩) ?_ | refine Wp.regA (by simp -implicitDefEqProofs; exact ⟨rfl, rfl⟩) (by rfl) ?_))
  (apply endK_r; (focus (simp -implicitDefEqProofs [Tryz.f32]; try rfl)); (focus (intro g; simp -implicitDefEqProofs [Tryz.f32])); exact ⟨_, rfl⟩)
theorem pUnit23_c  (g : Nat) (S : St)  : callT (X.at g) (den X E) S 32 [] = some (.agg [.int .i64 5, .sl (List.map RT.cells []) .dead], S) := by
  simpa using call_up (cf := X.at g) (fn := Tryz.f32) (args' := []) (by kernel_rfl) (by simp) (by simp; try rfl) (pUnit23) S
theorem pPair23 (a b : RT) : den X E 31 [a.enc, b.enc] [] = some ((RT.mk 3 [a, b]).enc, []) := by
  refine den_w0 (fn := Tryz.f31) (by rfl) (by rfl) (by kernel_rfl) rfl (by rfl) ?_
  simp -implicitDefEqProofs
  (repeat (first | refine Wp.seq ?_ | refine Wp.block ?_ | refine Wp.skip ?_ | refine Wp.exit ?_ | refine Wp.ret ?_ | refine thenK_n ?_ | refine thenK_r ?_ | refine thenK_e ?_ | refine blockK_n ?_ | refine blockK_r ?_ | refine blockK_e ?_ | refine blockK_o (by decide) ?_ | (refine Wp.condT ?_ ?_; focus (simp -implicitDefEqProofs <;> fail)) | (refine Wp.condF ?_ ?_; focus (simp -implicitDefEqProofs <;> fail)) | refine Wp.reg (by simp -implicitDefEqProofs; exact ⟨rfl, rfl⟩) ?_ | refine Wp.regA (by simp -implicitDefEqProofs; exact ⟨rfl, rfl⟩) (by rfl) ?_))
  (apply endK_r; (focus (simp -implicitDefEqProofs [Tryz.f31]; try rfl)); (focus (intro g; simp -implicitDefEqProofs [Tryz.f31])); exact ⟨_, rfl⟩)
theorem pPair23_c (a b : RT) (g : Nat) (S : St) (o1 o2 : Own) : callT (X.at g) (den X E) S 31 [.agg [.int .i64 a.k, .sl (List.map RT.cells a.as) o1], .agg [.int .i64 b.k, .sl (List.map RT.cells b.as) o2]] = some (.agg [.int .i64 3, .sl (List.map RT.cells [a, b]) .dead], S) := by
  simpa using call_up (cf := X.at g) (fn := Tryz.f31) (args' := [.agg [.int .i64 a.k, .sl (List.map RT.cells a.as) o1], .agg [.int .i64 b.k, .sl (List.map RT.cells b.as) o2]]) (by kernel_rfl) (by simp) (by simp; try rfl) (by simpa using pPair23 (E := E) a b) S
theorem pFun23 (a b : RT) : den X E 35 [a.enc, b.enc] [] = some ((RT.mk 4 [a, b]).enc, []) := by
  refine den_w0 (fn := Tryz.f35) (by rfl) (by rfl) (by kernel_rfl) rfl (by rfl) ?_
  simp -implicitDefEqProofs
  (repeat (first | refine Wp.seq ?_ | refine Wp.block ?_ | refine Wp.skip ?_ | refine Wp.exit ?_ | refine Wp.ret ?_ | refine thenK_n ?_ | refine thenK_r ?_ | refine thenK_e ?_ | refine blockK_n ?_ | refine blockK_r ?_ | refine blockK_e ?_ | refine blockK_o (by decide) ?_ | (refine Wp.condT ?_ ?_; focus (simp -implicitDefEqProofs <;> fail)) | (refine Wp.condF ?_ ?_; focus (simp -implicitDefEqProofs <;> fail)) | refine Wp.reg (by simp -implicitDefEqProofs; exact ⟨rfl, rfl⟩) ?_ | refine Wp.regA (by simp -implicitDefEqProofs; exact ⟨rfl, rfl⟩) (by rfl) ?_))
  (apply endK_r; (focus (simp -implicitDefEqProofs [Tryz.f35]; try rfl)); (focus (intro g; simp -implicitDefEqProofs [Tryz.f35])); exact ⟨_, rfl⟩)
theorem pFun23_c (a b : RT) (g : Nat) (S : St) (o1 o2 : Own) : callT (X.at g) (den X E) S 35 [.agg [.int .i64 a.k, .sl (List.map RT.cells a.as) o1], .agg [.int .i64 b.k, .sl (List.map RT.cells b.as) o2]] = some (.agg [.int .i64 4, .sl (List.map RT.cells [a, b]) .dead], S) := by
  simpa using call_up (cf := X.at g) (fn := Tryz.f35) (args' := [.agg [.int .i64 a.k, .sl (List.map RT.cells a.as) o1], .agg [.int .i64 b.k, .sl (List.map RT.cells b.as) o2]]) (by kernel_rfl) (by simp) (by simp; try rfl) (by simpa using pFun23 (E := E) a b) S
theorem pPlayNat : den X E 28 [] [] = some ((RT.mk 1 []).enc, []) := by
  refine den_w0 (fn := Tryz.f28) (by rfl) (by rfl) (by kernel_rfl) rfl (by rfl) ?_
  simp -implicitDefEqProofs
  (repeat (first | refine Wp.seq ?_ | refine Wp.block ?_ | refine Wp.skip ?_ | refine Wp.exit ?_ | refine Wp.ret ?_ | refine thenK_n ?_ | refine thenK_r ?_ | refine thenK_e ?_ | refine blockK_n ?_ | refine blockK_r ?_ | refine blockK_e ?_ | refine blockK_o (by decide) ?_ | (refine Wp.condT ?_ ?_; focus (simp -implicitDefEqProofs [pNat23_c] <;> fail)) | (refine Wp.condF ?_ ?_; focus (simp -implicitDefEqProofs [pNat23_c] <;> fail)) | refine Wp.reg (by simp -implicitDefEqProofs [pNat23_c]; exact ⟨rfl, rfl⟩) ?_ | refine Wp.regA (by simp -implicitDefEqProofs [pNat23_c]; exact ⟨rfl, rfl⟩) (by rfl) ?_))
  (apply endK_r; (focus (simp -implicitDefEqProofs [Tryz.f28]; try rfl)); (focus (intro g; simp -implicitDefEqProofs [Tryz.f28])); exact ⟨_, rfl⟩)
theorem pPlayNat_c  (g : Nat) (S : St)  : callT (X.at g) (den X E) S 28 [] = some (.agg [.int .i64 1, .sl (List.map RT.cells []) .dead], S) := by
  simpa using call_up (cf := X.at g) (fn := Tryz.f28) (args' := []) (by kernel_rfl) (by simp) (by simp; try rfl) (pPlayNat) S
theorem pUnit24 : den X E 34 [] [] = some ((RM.mk 13 0 noTy []).enc, []) := by
  refine den_w0 (fn := Tryz.f34) (by rfl) (by rfl) (by kernel_rfl) rfl (by rfl) ?_
  simp -implicitDefEqProofs
  (repeat (first | refine Wp.seq ?_ | refine Wp.block ?_ | refine Wp.skip ?_ | refine Wp.exit ?_ | refine Wp.ret ?_ | refine thenK_n ?_ | refine thenK_r ?_ | refine thenK_e ?_ | refine blockK_n ?_ | refine blockK_r ?_ | refine blockK_e ?_ | refine blockK_o (by decide) ?_ | (refine Wp.condT ?_ ?_; focus (simp -implicitDefEqProofs <;> fail)) | (refine Wp.condF ?_ ?_; focus (simp -implicitDefEqProofs <;> fail)) | refine Wp.reg (by simp -implicitDefEqProofs; exact ⟨rfl, rfl⟩) ?_ | refine Wp.regA (by simp -implicitDefEqProofs; exact ⟨rfl, rfl⟩) (by rfl) ?_))
  (apply endK_r; (focus (simp -implicitDefEqProofs [Tryz.f34]; try rfl)); (focus (intro g; simp -implicitDefEqProofs [Tryz.f34])); exact ⟨_, rfl⟩)
theorem pUnit24_c  (g : Nat) (S : St)  : callT (X.at g) (den X E) S 34 [] = some (.agg [.int .i64 13, .int .i64 0, .int .i64 0, .sl (List.map RT.cells []) .dead, .sl (List.map RM.cells []) .dead], S) := by
  simpa using call_up (cf := X.at g) (fn := Tryz.f34) (args' := []) (by kernel_rfl) (by simp) (by simp; try rfl) (by simpa using pUnit24 (E := E)) S
theorem pVar24 (i : Int) : den X E 37 [.int .i64 i] [] = some ((RM.mk 1 i noTy []).enc, []) := by
  refine den_w0 (fn := Tryz.f37) (by rfl) (by rfl) (by kernel_rfl) rfl (by rfl) ?_
  simp -implicitDefEqProofs
  (repeat (first | refine Wp.seq ?_ | refine Wp.block ?_ | refine Wp.skip ?_ | refine Wp.exit ?_ | refine Wp.ret ?_ | refine thenK_n ?_ | refine thenK_r ?_ | refine thenK_e ?_ | refine blockK_n ?_ | refine blockK_r ?_ | refine blockK_e ?_ | refine blockK_o (by decide) ?_ | (refine Wp.condT ?_ ?_; focus (simp -implicitDefEqProofs <;> fail)) | (refine Wp.condF ?_ ?_; focus (simp -implicitDefEqProofs <;> fail)) | refine Wp.reg (by simp -implicitDefEqProofs; exact ⟨rfl, rfl⟩) ?_ | refine Wp.regA (by simp -implicitDefEqProofs; exact ⟨rfl, rfl⟩) (by rfl) ?_))
  (apply endK_r; (focus (simp -implicitDefEqProofs [Tryz.f37]; try rfl)); (focus (intro g; simp -implicitDefEqProofs [Tryz.f37])); exact ⟨_, rfl⟩)
theorem pVar24_c (i : Int) (g : Nat) (S : St)  : callT (X.at g) (den X E) S 37 [.int .i64 i] = some (.agg [.int .i64 1, .int .i64 i, .int .i64 0, .sl (List.map RT.cells []) .dead, .sl (List.map RM.cells []) .dead], S) := by
  simpa using call_up (cf := X.at g) (fn := Tryz.f37) (args' := [.int .i64 i]) (by kernel_rfl) (by simp) (by simp; try rfl) (by simpa using pVar24 (E := E) i) S
theorem pNode24 (k : Int) (l : List RM) : den X E 33 [.int .i64 k, .sl (l.map RM.cells) .dead] [] = some ((RM.mk k 0 noTy l).enc, []) := by
  refine den_w0 (fn := Tryz.f33) (by rfl) (by rfl) (by kernel_rfl) rfl (by rfl) ?_
  simp -implicitDefEqProofs
  (repeat (first | refine Wp.seq ?_ | refine Wp.block ?_ | refine Wp.skip ?_ | refine Wp.exit ?_ | refine Wp.ret ?_ | refine thenK_n ?_ | refine thenK_r ?_ | refine thenK_e ?_ | refine blockK_n ?_ | refine blockK_r ?_ | refine blockK_e ?_ | refine blockK_o (by decide) ?_ | (refine Wp.condT ?_ ?_; focus (simp -implicitDefEqProofs <;> fail)) | (refine Wp.condF ?_ ?_; focus (simp -implicitDefEqProofs <;> fail)) | refine Wp.reg (by simp -implicitDefEqProofs; exact ⟨rfl, rfl⟩) ?_ | refine Wp.regA (by simp -implicitDefEqProofs; exact ⟨rfl, rfl⟩) (by rfl) ?_))
  (apply endK_r; (focus (simp -implicitDefEqProofs [Tryz.f33]; try rfl)); (focus (intro g; simp -implicitDefEqProofs [Tryz.f33])); exact ⟨_, rfl⟩)
theorem pNode24_c (k : Int) (l : List RM) (g : Nat) (S : St) (o1 : Own) : callT (X.at g) (den X E) S 33 [.int .i64 k, .sl (l.map RM.cells) o1] = some (.agg [.int .i64 k, .int .i64 0, .int .i64 0, .sl (List.map RT.cells []) .dead, .sl (List.map RM.cells l) .dead], S) := by
  simpa using call_up (cf := X.at g) (fn := Tryz.f33) (args' := [.int .i64 k, .sl (l.map RM.cells) o1]) (by kernel_rfl) (by simp) (by simp; try rfl) (by simpa using pNode24 (E := E) k l) S
theorem pLam24 (s : RT) (b : RM) : den X E 36 [s.enc, b.enc] [] = some ((RM.mk 2 0 s [b]).enc, []) := by
  refine den_w0 (fn := Tryz.f36) (by rfl) (by rfl) (by kernel_rfl) rfl (by rfl) ?_
  simp -implicitDefEqProofs
  (repeat (first | refine Wp.seq ?_ | refine Wp.block ?_ | refine Wp.skip ?_ | refine Wp.exit ?_ | refine Wp.ret ?_ | refine thenK_n ?_ | refine thenK_r ?_ | refine thenK_e ?_ | refine blockK_n ?_ | refine blockK_r ?_ | refine blockK_e ?_ | refine blockK_o (by decide) ?_ | (refine Wp.condT ?_ ?_; focus (simp -implicitDefEqProofs <;> fail)) | (refine Wp.condF ?_ ?_; focus (simp -implicitDefEqProofs <;> fail)) | refine Wp.reg (by simp -implicitDefEqProofs; exact ⟨rfl, rfl⟩) ?_ | refine Wp.regA (by simp -implicitDefEqProofs; exact ⟨rfl, rfl⟩) (by rfl) ?_))
  (apply endK_r; (focus (simp -implicitDefEqProofs [Tryz.f36]; try rfl)); (focus (intro g; simp -implicitDefEqProofs [Tryz.f36])); exact ⟨_, rfl⟩)
theorem pLam24_c (s : RT) (b : RM) (g : Nat) (S : St) (o1 o2 o3 : Own) : callT (X.at g) (den X E) S 36 [.agg [.int .i64 s.k, .sl (List.map RT.cells s.as) o1], .agg [.int .i64 b.k, .int .i64 b.i, .int .i64 b.ty.k, .sl (List.map RT.cells b.ty.as) o2, .sl (List.map RM.cells b.as) o3]] = some (.agg [.int .i64 2, .int .i64 0, .int .i64 s.k, .sl (List.map RT.cells s.as) .dead, .sl (List.map RM.cells [b]) .dead], S) := by
  simpa using call_up (cf := X.at g) (fn := Tryz.f36) (args' := [.agg [.int .i64 s.k, .sl (List.map RT.cells s.as) o1], .agg [.int .i64 b.k, .int .i64 b.i, .int .i64 b.ty.k, .sl (List.map RT.cells b.ty.as) o2, .sl (List.map RM.cells b.as) o3]]) (by kernel_rfl) (by simp) (by simp; try rfl) (by simpa using pLam24 (E := E) s b) S
theorem limits33 (e : Int) : den X E 21 [.int .i64 e] [] = some (.bool (decide (e = 4 ∨ e = 5 ∨ e = 3)), []) := by
  by_cases h4 : e = 4
  · subst h4
    refine den_w0 (fn := Tryz.f21) (by rfl) (by rfl) (by kernel_rfl) rfl (by rfl) ?_
    simp -implicitDefEqProofs
    (repeat (first | refine Wp.seq ?_ | refine Wp.block ?_ | refine Wp.skip ?_ | refine Wp.exit ?_ | refine Wp.ret ?_ | refine thenK_n ?_ | refine thenK_r ?_ | refine thenK_e ?_ | refine blockK_n ?_ | refine blockK_r ?_ | refine blockK_e ?_ | refine blockK_o (by decide) ?_ | (refine Wp.condT ?_ ?_; focus (simp -implicitDefEqProofs <;> fail)) | (refine Wp.condF ?_ ?_; focus (simp -implicitDefEqProofs <;> fail)) | refine Wp.reg (by simp -implicitDefEqProofs; exact ⟨rfl, rfl⟩) ?_ | refine Wp.regA (by simp -implicitDefEqProofs; exact ⟨rfl, rfl⟩) (by rfl) ?_))
    (apply endK_r; (focus (simp -implicitDefEqProofs [Tryz.f21]; try rfl)); (focus (intro g; simp -implicitDefEqProofs [Tryz.f21])); exact ⟨_, rfl⟩)
  by_cases h5 : e = 5
  · subst h5
    refine den_w0 (fn := Tryz.f21) (by rfl) (by rfl) (by kernel_rfl) rfl (by rfl) ?_
    simp -implicitDefEqProofs
    (repeat (first | refine Wp.seq ?_ | refine Wp.block ?_ | refine Wp.skip ?_ | refine Wp.exit ?_ | refine Wp.ret ?_ | refine thenK_n ?_ | refine thenK_r ?_ | refine thenK_e ?_ | refine blockK_n ?_ | refine blockK_r ?_ | refine blockK_e ?_ | refine blockK_o (by decide) ?_ | (refine Wp.condT ?_ ?_; focus (simp -implicitDefEqProofs <;> fail)) | (refine Wp.condF ?_ ?_; focus (simp -implicitDefEqProofs <;> fail)) | refine Wp.reg (by simp -implicitDefEqProofs; exact ⟨rfl, rfl⟩) ?_ | refine Wp.regA (by simp -implicitDefEqProofs; exact ⟨rfl, rfl⟩) (by rfl) ?_))
    (apply endK_r; (focus (simp -implicitDefEqProofs [Tryz.f21]; try rfl)); (focus (intro g; simp -implicitDefEqProofs [Tryz.f21])); exact ⟨_, rfl⟩)
  by_cases h3 : e = 3
  · subst h3
    refine den_w0 (fn := Tryz.f21) (by rfl) (by rfl) (by kernel_rfl) rfl (by rfl) ?_
    simp -implicitDefEqProofs
    (repeat (first | refine Wp.seq ?_ | refine Wp.block ?_ | refine Wp.skip ?_ | refine Wp.exit ?_ | refine Wp.ret ?_ | refine thenK_n ?_ | refine thenK_r ?_ | refine thenK_e ?_ | refine blockK_n ?_ | refine blockK_r ?_ | refine blockK_e ?_ | refine blockK_o (by decide) ?_ | (refine Wp.condT ?_ ?_; focus (simp -implicitDefEqProofs <;> fail)) | (refine Wp.condF ?_ ?_; focus (simp -implicitDefEqProofs <;> fail)) | refine Wp.reg (by simp -implicitDefEqProofs; exact ⟨rfl, rfl⟩) ?_ | refine Wp.regA (by simp -implicitDefEqProofs; exact ⟨rfl, rfl⟩) (by rfl) ?_))
    (apply endK_r; (focus (simp -implicitDefEqProofs [Tryz.f21]; try rfl)); (focus (intro g; simp -implicitDefEqProofs [Tryz.f21])); exact ⟨_, rfl⟩)
  refine den_w0 (fn := Tryz.f21) (by rfl) (by rfl) (by kernel_rfl) rfl (by rfl) ?_
  simp -implicitDefEqProofs
  (repeat (first | refine Wp.seq ?_ | refine Wp.block ?_ | refine Wp.skip ?_ | refine Wp.exit ?_ | refine Wp.ret ?_ | refine thenK_n ?_ | refine thenK_r ?_ | refine thenK_e ?_ | refine blockK_n ?_ | refine blockK_r ?_ | refine blockK_e ?_ | refine blockK_o (by decide) ?_ | (refine Wp.condT ?_ ?_; focus (simp -implicitDefEqProofs [h3, h4, h5] <;> fail)) | (refine Wp.condF ?_ ?_; focus (simp -implicitDefEqProofs [h3, h4, h5] <;> fail)) | refine Wp.reg (by simp -implicitDefEqProofs [h3, h4, h5]; exact ⟨rfl, rfl⟩) ?_ | refine Wp.regA (by simp -implicitDefEqProofs [h3, h4, h5]; exact ⟨rfl, rfl⟩) (by rfl) ?_))
  (apply endK_r; (focus (simp -implicitDefEqProofs [Tryz.f21, h3, h4, h5]; try rfl)); (focus (intro g; simp -implicitDefEqProofs [Tryz.f21, h3, h4, h5])); exact ⟨_, rfl⟩)
theorem limits33_c (e : Int) (g : Nat) (S : St)  : callT (X.at g) (den X E) S 21 [.int .i64 e] = some (.bool (decide (e = 4 ∨ e = 5 ∨ e = 3)), S) := by
  simpa using call_up (cf := X.at g) (fn := Tryz.f21) (args' := [.int .i64 e]) (by kernel_rfl) (by simp) (by simp; try rfl) (limits33 e) S

/-- A small type without functions. -/
def plainP (zs : List Int) (i : Nat) : Ty × Nat :=
  let p := nextP zs i 6
  (if p.1 = 0 ∨ p.1 = 1 then .nat else if p.1 = 2 then .list else if p.1 = 3 then .unit else if p.1 = 4 then .pair .nat .list else .pair .nat .nat, p.2)
theorem plainP_le {zs : List Int} {i : Nat} (h : i ≤ zs.length) : (plainP zs i).2 ≤ zs.length := nextP_le 6 h
theorem plainP_ok (zs : List Int) (i : Nat) : (plainP zs i).1.data = true ∧ (plainP zs i).1.size ≤ 3 := by
  unfold plainP
  simp only
  split
  · exact ⟨rfl, by decide⟩
  split
  · exact ⟨rfl, by decide⟩
  split
  · exact ⟨rfl, by decide⟩
  split
  · exact ⟨rfl, by decide⟩
  · exact ⟨rfl, by decide⟩
theorem mkPlain (zs : List Int) (hz : zs.length ≤ 1000000) (i : Nat) (hi : i ≤ zs.length) : den X E 61 [.loc 0 0] [deck zs i] = some ((plainP zs i).1.raw.enc, [deck zs (plainP zs i).2]) := by
  obtain ⟨p, i1, hp⟩ : ∃ p i1, nextP zs i 6 = (p, i1) := ⟨_, _, rfl⟩
  obtain ⟨h0, h6, hi1⟩ := nextP_eq hp (by decide) hi
  have c1 := fun g b S h => next_c (E := E) zs i 6 (by decide) (by decide) hi hz g b S h
  simp only [hp] at c1
  have c2 := two1_c (E := E) (k := 1) (ts := []) (m := 2) (us := []) (by decide) (by decide)
  have c3 := two1_c (E := E) (k := 1) (ts := []) (m := 1) (us := []) (by decide) (by decide)
  simp at c2 c3
  simp only [plainP, hp, deck_eq]
  obtain rfl | rfl | rfl | rfl | rfl | rfl : p = 0 ∨ p = 1 ∨ p = 2 ∨ p = 3 ∨ p = 4 ∨ p = 5 := by omega
  all_goals
    simp
    refine den_w (fn := Tryz.f61) (by rfl) (by rfl) (by kernel_rfl) rfl (by rfl) (by rfl) (by simp) ?_
    simp
    (repeat (first | refine Wp.seq ?_ | refine Wp.block ?_ | refine Wp.skip ?_ | refine Wp.exit ?_ | refine Wp.ret ?_ | refine thenK_n ?_ | refine thenK_r ?_ | refine thenK_e ?_ | refine blockK_n ?_ | refine blockK_r ?_ | refine blockK_e ?_ | refine blockK_o (by decide) ?_ | (refine Wp.condT ?_ ?_; focus (simp -implicitDefEqProofs [c1, nat1_c, list1_c, unit1_c, c2, c3] <;> fail)) | (refine Wp.condF ?_ ?_; focus (simp -implicitDefEqProofs [c1, nat1_c, list1_c, unit1_c, c2, c3] <;> fail)) | refine Wp.reg (by simp -implicitDefEqProofs [c1, nat1_c, list1_c, unit1_c, c2, c3]; exact ⟨rfl, rfl⟩) ?_ | refine Wp.regA (by simp -implicitDefEqProofs [c1, nat1_c, list1_c, unit1_c, c2, c3]; exact ⟨rfl, rfl⟩) (by rfl) ?_))
    (apply endK_r; (focus (simp -implicitDefEqProofs [Tryz.f61, Ty.raw]; try rfl)); (focus (intro g; simp -implicitDefEqProofs [Tryz.f61, Ty.raw])); exact ⟨_, rfl⟩)
theorem mkPlain_c (zs : List Int) (hz : zs.length ≤ 1000000) (i : Nat) (hi : i ≤ zs.length) (g b : Nat) (S : St) (hS : sd S.σ b = some [.sl (zs.map ic) .dead, .int .i64 i]) :
    callT (X.at g) (den X E) S 61 [.loc b 0] = some (.agg [.int .i64 (plainP zs i).1.raw.k, .sl (List.map RT.cells (plainP zs i).1.raw.as) .dead], { S with σ := S.σ.set b [.sl (zs.map ic) .dead, .int .i64 (plainP zs i).2] }) := by
  simpa using call_upD (cf := X.at g) (fn := Tryz.f61) (args' := []) (by kernel_rfl) rfl (by rfl) (by rfl) (by simp) (by simp) (by simp) (by simp) (mkPlain zs hz i hi) S hS

/-- A list of small numbers; a plain value of a type. -/
def listP (zs : List Int) : Nat → Nat → List Nat × Nat
  | 0, i => ([], i)
  | k + 1, i => let p := nextP zs i 4; let q := listP zs k p.2; (p.1.toNat :: q.1, q.2)
def valueP (zs : List Int) : Ty → Nat → V × Nat
  | .nat, i => let p := nextP zs i 5; (.num p.1.toNat, p.2)
  | .list, i => let p := nextP zs i 4; let q := listP zs p.1.toNat p.2; (.list q.1, q.2)
  | .pair a b, i => let x := valueP zs a i; let y := valueP zs b x.2; (.pair x.1 y.1, y.2)
  | .unit, i => (.unit, i)
  | .fn _ _, i => (.unit, i)
theorem listP_le {zs : List Int} : ∀ (k : Nat) {i : Nat}, i ≤ zs.length → (listP zs k i).2 ≤ zs.length
  | 0, i, h => h
  | k + 1, i, h => listP_le k (nextP_le 4 h)
theorem listP_ok (zs : List Int) : ∀ (k i : Nat), (listP zs k i).1.length = k ∧ ∀ x ∈ (listP zs k i).1, x ≤ 10
  | 0, i => ⟨rfl, by simp [listP]⟩
  | k + 1, i => by
    have ih := listP_ok zs k (nextP zs i 4).2
    have h := nextP_range zs i (n := 4) (by decide)
    refine ⟨by simp [listP, ih.1], ?_⟩
    intro x hx
    simp only [listP, List.mem_cons] at hx
    rcases hx with rfl | hx
    · omega
    · exact ih.2 x hx
theorem valueP_le {zs : List Int} : ∀ (t : Ty) {i : Nat}, i ≤ zs.length → (valueP zs t i).2 ≤ zs.length
  | .nat, i, h => nextP_le 5 h
  | .list, i, h => listP_le _ (nextP_le 4 h)
  | .pair a b, i, h => valueP_le b (valueP_le a h)
  | .unit, i, h => h
  | .fn _ _, i, h => h
theorem valueP_ok (zs : List Int) : ∀ (t : Ty) (i : Nat), t.data = true → VD t (valueP zs t i).1 ∧ VN 10 (valueP zs t i).1
  | .nat, i, _ => ⟨.num _, .num (by have h := nextP_range zs i (n := 5) (by decide); omega)⟩
  | .list, i, _ => by
    have h := nextP_range zs i (n := 4) (by decide)
    have h2 := listP_ok zs (nextP zs i 4).1.toNat (nextP zs i 4).2
    exact ⟨.list _, .list (by rw [h2.1]; omega) h2.2⟩
  | .pair a b, i, h => by
    simp only [Ty.data, Bool.and_eq_true] at h
    have h1 := valueP_ok zs a i h.1
    have h2 := valueP_ok zs b (valueP zs a i).2 h.2
    exact ⟨.pair h1.1 h2.1, .pair h1.2 h2.2⟩
  | .unit, i, _ => ⟨.unit, .unit⟩
  | .fn _ _, i, h => by simp [Ty.data] at h
theorem mkValue (zs : List Int) (hz : zs.length ≤ 1000000) : ∀ (t : Ty) (i : Nat), t.data = true → i ≤ zs.length → den X E 62 [.loc 0 0, t.raw.enc] [deck zs i] = some ((V.rv (valueP zs t i).1).enc, [deck zs (valueP zs t i).2]) := by
  intro t
  induction t with
  | nat =>
    intro i _ hi
    obtain ⟨p, i1, hp⟩ : ∃ p i1, nextP zs i 5 = (p, i1) := ⟨_, _, rfl⟩
    obtain ⟨h0, h6, hi1⟩ := nextP_eq hp (by decide) hi
    have c1 := fun g b S h => next_c (E := E) zs i 5 (by decide) (by decide) hi hz g b S h
    simp only [hp] at c1
    obtain ⟨q, rfl⟩ : ∃ q : Nat, p = q := ⟨p.toNat, by omega⟩
    simp only [valueP, hp, deck_eq, V.rv_num, Ty.raw]
    refine den_w (fn := Tryz.f62) (σ1 := [[.sl (zs.map ic) .dead, .int .i64 i1]]) (by rfl) (by rfl) (by kernel_rfl) rfl (by rfl) (by rfl) (by simp -implicitDefEqProofs) ?_
    simp -implicitDefEqProofs
    (repeat (first | refine Wp.seq ?_ | refine Wp.block ?_ | refine Wp.skip ?_ | refine Wp.exit ?_ | refine Wp.ret ?_ | refine thenK_n ?_ | refine thenK_r ?_ | refine thenK_e ?_ | refine blockK_n ?_ | refine blockK_r ?_ | refine blockK_e ?_ | refine blockK_o (by decide) ?_ | (refine Wp.condT ?_ ?_; focus (simp -implicitDefEqProofs [c1] <;> fail)) | (refine Wp.condF ?_ ?_; focus (simp -implicitDefEqProofs [c1] <;> fail)) | refine Wp.reg (by simp -implicitDefEqProofs [c1]; exact ⟨rfl, rfl⟩) ?_ | refine Wp.regA (by simp -implicitDefEqProofs [c1]; exact ⟨rfl, rfl⟩) (by rfl) ?_))
    (apply endK_r; (focus (simp -implicitDefEqProofs [Tryz.f62]; try rfl)); (focus (intro g; simp -implicitDefEqProofs [Tryz.f62])); exact ⟨_, rfl⟩)
  | unit =>
    intro i _ hi
    simp only [valueP, deck_eq, V.rv_unit, Ty.raw]
    refine den_w (fn := Tryz.f62) (σ1 := [[.sl (zs.map ic) .dead, .int .i64 i]]) (by rfl) (by rfl) (by kernel_rfl) rfl (by rfl) (by rfl) (by simp -implicitDefEqProofs) ?_
    simp -implicitDefEqProofs
    (repeat (first | refine Wp.seq ?_ | refine Wp.block ?_ | refine Wp.skip ?_ | refine Wp.exit ?_ | refine Wp.ret ?_ | refine thenK_n ?_ | refine thenK_r ?_ | refine thenK_e ?_ | refine blockK_n ?_ | refine blockK_r ?_ | refine blockK_e ?_ | refine blockK_o (by decide) ?_ | (refine Wp.condT ?_ ?_; focus (simp -implicitDefEqProofs <;> fail)) | (refine Wp.condF ?_ ?_; focus (simp -implicitDefEqProofs <;> fail)) | refine Wp.reg (by simp -implicitDefEqProofs; exact ⟨rfl, rfl⟩) ?_ | refine Wp.regA (by simp -implicitDefEqProofs; exact ⟨rfl, rfl⟩) (by rfl) ?_))
    (apply endK_r; (focus (simp -implicitDefEqProofs [Tryz.f62]; try rfl)); (focus (intro g; simp -implicitDefEqProofs [Tryz.f62])); exact ⟨_, rfl⟩)
  | fn a b _ _ => intro i h; simp [Ty.data] at h
  | pair s u ih1 ih2 =>
    intro i h hi
    simp only [Ty.data, Bool.and_eq_true] at h
    obtain ⟨x, i1, hx⟩ : ∃ x i1, valueP zs s i = (x, i1) := ⟨_, _, rfl⟩
    have hi1 : i1 ≤ zs.length := by have := valueP_le s hi; rw [hx] at this; exact this
    obtain ⟨y, i2, hy⟩ : ∃ y i2, valueP zs u i1 = (y, i2) := ⟨_, _, rfl⟩
    have k1 := ih1 i h.1 hi
    have k2 := ih2 i1 h.2 hi1
    rw [hx] at k1
    rw [hy] at k2
    simp only [deck_eq] at k1 k2
    have c1 : ∀ (g b : Nat) (S : St) (o1 : Own), sd S.σ b = some [.sl (zs.map ic) .dead, .int .i64 i] → callT (X.at g) (den X E) S 62 [.loc b 0, .agg [.int .i64 s.raw.k, .sl (List.map RT.cells s.raw.as) o1]] = some (.agg [.int .i64 (V.rv x).k, .int .i64 (V.rv x).n, .sl (List.map ic (V.rv x).l) .dead, .sl (List.map RV.cells (V.rv x).as) .dead], { S with σ := S.σ.set b [.sl (zs.map ic) .dead, .int .i64 i1] }) := by
      intros
      rename_i hS
      simpa using call_upD (cf := X.at _) (fn := Tryz.f62) (args' := [_]) (by kernel_rfl) rfl (by rfl) (by rfl) (by simp) (by simp; try rfl) (by simp) (by simp) (by simpa using k1) _ hS
    have c2 : ∀ (g b : Nat) (S : St) (o1 : Own), sd S.σ b = some [.sl (zs.map ic) .dead, .int .i64 i1] → callT (X.at g) (den X E) S 62 [.loc b 0, .agg [.int .i64 u.raw.k, .sl (List.map RT.cells u.raw.as) o1]] = some (.agg [.int .i64 (V.rv y).k, .int .i64 (V.rv y).n, .sl (List.map ic (V.rv y).l) .dead, .sl (List.map RV.cells (V.rv y).as) .dead], { S with σ := S.σ.set b [.sl (zs.map ic) .dead, .int .i64 i2] }) := by
      intros
      rename_i hS
      simpa using call_upD (cf := X.at _) (fn := Tryz.f62) (args' := [_]) (by kernel_rfl) rfl (by rfl) (by rfl) (by simp) (by simp; try rfl) (by simp) (by simp) (by simpa using k2) _ hS
    simp only [valueP, hx, hy, deck_eq, V.rv_pair, Ty.raw]
    refine den_w (fn := Tryz.f62) (σ1 := [[.sl (zs.map ic) .dead, .int .i64 i2]]) (by rfl) (by rfl) (by kernel_rfl) rfl (by rfl) (by rfl) (by simp -implicitDefEqProofs) ?_
    simp -implicitDefEqProofs
    (repeat (first | refine Wp.seq ?_ | refine Wp.block ?_ | refine Wp.skip ?_ | refine Wp.exit ?_ | refine Wp.ret ?_ | refine thenK_n ?_ | refine thenK_r ?_ | refine thenK_e ?_ | refine blockK_n ?_ | refine blockK_r ?_ | refine blockK_e ?_ | refine blockK_o (by decide) ?_ | (refine Wp.condT ?_ ?_; focus (simp -implicitDefEqProofs [c1, c2] <;> fail)) | (refine Wp.condF ?_ ?_; focus (simp -implicitDefEqProofs [c1, c2] <;> fail)) | refine Wp.reg (by simp -implicitDefEqProofs [c1, c2]; exact ⟨rfl, rfl⟩) ?_ | refine Wp.regA (by simp -implicitDefEqProofs [c1, c2]; exact ⟨rfl, rfl⟩) (by rfl) ?_))
    (apply endK_r; (focus (simp -implicitDefEqProofs [Tryz.f62]; try rfl)); (focus (intro g; simp -implicitDefEqProofs [Tryz.f62])); exact ⟨_, rfl⟩)
  | list =>
    intro i _ hi
    obtain ⟨p, i1, hp⟩ : ∃ p i1, nextP zs i 4 = (p, i1) := ⟨_, _, rfl⟩
    obtain ⟨h0, h6, hi1⟩ := nextP_eq hp (by decide) hi
    have c1 := fun g b S h => next_c (E := E) zs i 4 (by decide) (by decide) hi hz g b S h
    simp only [hp] at c1
    obtain ⟨k, rfl⟩ : ∃ k : Nat, p = k := ⟨p.toNat, by omega⟩
    simp only [valueP, hp, deck_eq, V.rv_list, Ty.raw, Int.toNat_natCast]
    refine den_w (fn := Tryz.f62) (σ1 := [[.sl (zs.map ic) .dead, .int .i64 (listP zs k i1).2]]) (by rfl) (by rfl) (by kernel_rfl) rfl (by rfl) (by rfl) (by simp -implicitDefEqProofs) ?_
    simp -implicitDefEqProofs
    (repeat (first | refine Wp.seq ?_ | refine Wp.block ?_ | refine Wp.skip ?_ | refine Wp.exit ?_ | refine Wp.ret ?_ | refine thenK_n ?_ | refine thenK_r ?_ | refine thenK_e ?_ | refine blockK_n ?_ | refine blockK_r ?_ | refine blockK_e ?_ | refine blockK_o (by decide) ?_ | (refine Wp.condT ?_ ?_; focus (simp -implicitDefEqProofs [c1] <;> fail)) | (refine Wp.condF ?_ ?_; focus (simp -implicitDefEqProofs [c1] <;> fail)) | refine Wp.reg (by simp -implicitDefEqProofs [c1]; exact ⟨rfl, rfl⟩) ?_ | refine Wp.regA (by simp -implicitDefEqProofs [c1]; exact ⟨rfl, rfl⟩) (by rfl) ?_))
    refine Wp.loopF [6, 19, 20, 21, 22, 23, 24, 25, 26, 27, 28, 29] [0, 3] (fun n w c tk => ∃ done j o, w 6 = .int .i64 n ∧ c 0 = deck zs j ∧ c 3 = [.int .i64 2, .int .i64 0, .sl (List.map (ic ∘ Int.ofNat) done) o, .sl [] .full] ∧ j ≤ zs.length ∧ done.length + n = k ∧ listP zs k i1 = (done ++ (listP zs n j).1, (listP zs n j).2) ∧ Can tk (List.map (ic ∘ Int.ofNat) done) o) (k) ?_ ?_ ?_ ?_
    · rfl
    · rfl
    · exact ⟨[], i1, .full, rfl, rfl, rfl, hi1, by simp, by simp, trivial⟩
    rintro n w c junk tk r σ ⟨done, j, o, hw6, hc0, hc3, hj, hdn, heq, hcan⟩ hr hσ
    simp -implicitDefEqProofs [hw6, hc0, hc3] at hr hσ
    subst hr hσ
    cases n with
    | zero =>
      simp [listP] at heq
      rw [heq]
      (repeat (first | refine Wp.seq ?_ | refine Wp.block ?_ | refine Wp.skip ?_ | refine Wp.exit ?_ | refine Wp.ret ?_ | refine thenK_n ?_ | refine thenK_r ?_ | refine thenK_e ?_ | refine blockK_n ?_ | refine blockK_r ?_ | refine blockK_e ?_ | refine blockK_o (by decide) ?_ | (refine Wp.condT ?_ ?_; focus (simp -implicitDefEqProofs <;> fail)) | (refine Wp.condF ?_ ?_; focus (simp -implicitDefEqProofs <;> fail)) | refine Wp.reg (by simp -implicitDefEqProofs; exact ⟨rfl, rfl⟩) ?_ | refine Wp.regA (by simp -implicitDefEqProofs; exact ⟨rfl, rfl⟩) (by rfl) ?_))
      (apply endK_r; (focus (simp -implicitDefEqProofs [Tryz.f62]; try rfl)); (focus (intro g; simp -implicitDefEqProofs [Tryz.f62])); exact ⟨_, rfl⟩)
    | succ n =>
      obtain ⟨q, j1, hq⟩ : ∃ q j1, nextP zs j 4 = (q, j1) := ⟨_, _, rfl⟩
      obtain ⟨hq0, hq4, hj1⟩ := nextP_eq hq (by decide) hj
      have c2 := fun g b S h => next_c (E := E) zs j 4 (by decide) (by decide) hj hz g b S h
      simp only [hq] at c2
      obtain ⟨q', rfl⟩ : ∃ q' : Nat, q = q' := ⟨q.toNat, by omega⟩
      have hpos : (0 : Int) < (n : Int) + 1 := by omega
      have hw : IntKind.i64.wrap (n : Int) = n := IntWalk.i64_in _ (by omega)
      obtain ⟨o', tk', happ, hcan'⟩ := can_app hcan 1 (by decide) (by intro c hc; obtain ⟨x, _, rfl⟩ := List.mem_map.1 hc; rfl) (by simp; omega)
      (repeat (first | refine Wp.seq ?_ | refine Wp.block ?_ | refine Wp.skip ?_ | refine Wp.exit ?_ | refine Wp.ret ?_ | refine thenK_n ?_ | refine thenK_r ?_ | refine thenK_e ?_ | refine blockK_n ?_ | refine blockK_r ?_ | refine blockK_e ?_ | refine blockK_o (by decide) ?_ | (refine Wp.condT ?_ ?_; focus (simp -implicitDefEqProofs [hpos, hw, c2, happ] <;> fail)) | (refine Wp.condF ?_ ?_; focus (simp -implicitDefEqProofs [hpos, hw, c2, happ] <;> fail)) | refine Wp.reg (by simp -implicitDefEqProofs [hpos, hw, c2, happ]; exact ⟨rfl, rfl⟩) ?_ | refine Wp.regA (by simp -implicitDefEqProofs [hpos, hw, c2, happ]; exact ⟨rfl, rfl⟩) (by rfl) ?_))
      refine ⟨by simp, ⟨_, by simp -implicitDefEqProofs; rfl⟩, n, by omega, done ++ [q'], j1, o', by simp, by simp, by simp, hj1, by simp; omega, by rw [heq]; simp [listP, hq], by simpa using hcan' _⟩
theorem mkValue_c (zs : List Int) (hz : zs.length ≤ 1000000) (t : Ty) (i : Nat) (ht : t.data = true) (hi : i ≤ zs.length) (g b : Nat) (S : St) (o1 : Own) (hS : sd S.σ b = some [.sl (zs.map ic) .dead, .int .i64 i]) : callT (X.at g) (den X E) S 62 [.loc b 0, .agg [.int .i64 t.raw.k, .sl (List.map RT.cells t.raw.as) o1]] = some (.agg [.int .i64 (V.rv (valueP zs t i).1).k, .int .i64 (V.rv (valueP zs t i).1).n, .sl (List.map ic (V.rv (valueP zs t i).1).l) .dead, .sl (List.map RV.cells (V.rv (valueP zs t i).1).as) .dead], { S with σ := S.σ.set b [.sl (zs.map ic) .dead, .int .i64 (valueP zs t i).2] }) := by
  simpa using call_upD (cf := X.at g) (fn := Tryz.f62) (args' := [.agg [.int .i64 t.raw.k, .sl (List.map RT.cells t.raw.as) o1]]) (by kernel_rfl) rfl (by rfl) (by rfl) (by simp) (by simp; try rfl) (by simp) (by simp) (by simpa using mkValue (E := E) zs hz t i ht hi) S hS
end M
end Go.Proofs.YthclcchnodjjpaaGreatDoor
/- play.Function: a closed function of plain types, with values for it. -/
set_option linter.unusedVariables false
set_option linter.unusedSimpArgs false
set_option maxRecDepth 10000
set_option maxHeartbeats 4000000
namespace Go.Proofs.YthclcchnodjjpaaGreatDoor
namespace M
attribute [local irreducible] Wp thenK blockK endK
variable {E : Oracle}
open T (V Ty Tm noTy Env)
attribute [local simp] noTy
/-- What play.Function makes: a term, values, where the deck then stands. -/
def funP (zs : List Int) (i : Nat) : Tm × List V × Nat :=
  let k := nextP zs i 2
  let a := plainP zs k.2
  let v := valueP zs a.1 a.2
  if k.1 = 0 then
    let r := plainP zs v.2
    let x := termP zs 3 r.1 [a.1] r.2
    (.lam a.1 x.1, [v.1], x.2)
  else
    let b := plainP zs v.2
    let w := valueP zs b.1 b.2
    let r := plainP zs w.2
    let x := termP zs 3 r.1 [a.1, b.1] r.2
    (.lam a.1 (.lam b.1 x.1), [v.1, w.1], x.2)
/-- A function of one or two plain values. -/
inductive FnOk (C : Nat) : Tm → List V → Prop where
  | one {t : Tm} {a r : Ty} {d : Env [] → (Ty.fn a r).den} {v : V} : T.Sem [] t (.fn a r) d → r.data = true → VD a v → VN C v → a.size ≤ 3 → r.size ≤ 3 → FnOk C t [v]
  | two {t : Tm} {a b r : Ty} {d : Env [] → (Ty.fn a (.fn b r)).den} {v w : V} : T.Sem [] t (.fn a (.fn b r)) d → r.data = true → VD a v → VN C v → VD b w → VN C w → a.size ≤ 3 → b.size ≤ 3 → r.size ≤ 3 → FnOk C t [v, w]
theorem playFunction (zs : List Int) (hz : zs.length ≤ 1000000) (i : Nat) (hi : i ≤ zs.length) :
    den X E 18 [.loc 0 0] [deck zs i] = some (.tup [(funP zs i).1.raw.enc, .sl ((funP zs i).2.1.map (RV.cells ∘ V.rv)) .dead], [deck zs (funP zs i).2.2]) ∧
    (funP zs i).2.2 ≤ zs.length ∧ (funP zs i).1.small = true ∧ (funP zs i).1.size ≤ 40000 ∧ (∃ b : Nat, 3 ≤ b ∧ b ≤ 268435456 ∧ (funP zs i).1.idx b = true) ∧ FnOk 10 (funP zs i).1 (funP zs i).2.1 := by
  have hw0 : IntKind.i64.wrap 0 = 0 := by decide
  have hw1 : IntKind.i64.wrap 1 = 1 := by decide
  have hw2 : IntKind.i64.wrap 2 = 2 := by decide
  have hwm : IntKind.i64.wrap (-1) = -1 := by decide
  obtain ⟨p, i1, hp⟩ : ∃ p i1, nextP zs i 2 = (p, i1) := ⟨_, _, rfl⟩
  obtain ⟨h0, h6, hi1⟩ := nextP_eq hp (by decide) hi
  have c1 := fun g b S h => next_c (E := E) zs i 2 (by decide) (by decide) hi hz g b S h
  simp only [hp] at c1
  obtain ⟨a, i2, ha⟩ : ∃ a i2, plainP zs i1 = (a, i2) := ⟨_, _, rfl⟩
  have a1 := plainP_le (zs := zs) hi1
  have a2 := plainP_ok zs i1
  have c2 := fun g b S h => mkPlain_c (E := E) zs hz i1 hi1 g b S h
  rw [ha] at a1 a2 c2
  obtain ⟨v, i3, hv⟩ : ∃ v i3, valueP zs a i2 = (v, i3) := ⟨_, _, rfl⟩
  have v1 := valueP_le (zs := zs) a a1
  have v2 := valueP_ok zs a i2 a2.1
  have c3 := fun g b S o h => mkValue_c (E := E) zs hz a i2 a2.1 a1 g b S o h
  simp only at a1 a2 c2 v1 v2 c3
  rw [hv] at v1 v2 c3
  simp only at v1 v2 c3
  obtain rfl | rfl : p = 0 ∨ p = 1 := by omega
  · obtain ⟨r, i4, hr⟩ : ∃ r i4, plainP zs i3 = (r, i4) := ⟨_, _, rfl⟩
    have r1 := plainP_le (zs := zs) v1
    have r2 := plainP_ok zs i3
    have c4 := fun g b S h => mkPlain_c (E := E) zs hz i3 v1 g b S h
    rw [hr] at r1 r2 c4
    simp only at r1 r2 c4
    have c5 := mkTerm_c (E := E) zs hz 3 i4 r [a] (by decide) (by omega) (by simp) (by simp; omega) r1
    obtain ⟨x, i5, hx⟩ : ∃ x i5, termP zs 3 r [a] i4 = (x, i5) := ⟨_, _, rfl⟩
    obtain ⟨hi5, hxs, hxz, ⟨b, hb3, hb, hxi⟩, dx, hsem⟩ := termP_facts hx (by decide) (by omega) (by simp; omega) (by simp) r1
    rw [hx] at c5
    have hF : funP zs i = (.lam a x, [v], i5) := by simp [funP, hp, ha, hv, hr, hx]
    rw [hF]
    refine ⟨?_, hi5, by simp [Tm.small, hxs]; omega, by simp only [Tm.size]; omega, ⟨b, hb3, hb, by simpa [Tm.idx] using hxi⟩, .one (.lam hsem) r2.1 v2.1 v2.2 a2.2 r2.2⟩
    have c6 := pLam24_c (E := E) a.raw x.raw
    simp at c2 c3 c4 c5 c6
    simp only [deck_eq, Tm.raw]
    simp
    refine den_w (fn := Tryz.f18) (σ1 := [[.sl (zs.map ic) .dead, .int .i64 i5]]) (by rfl) (by rfl) (by kernel_rfl) rfl (by rfl) (by rfl) (by simp) ?_
    simp
    (repeat (first | refine Wp.seq ?_ | refine Wp.block ?_ | refine Wp.skip ?_ | refine Wp.exit ?_ | refine Wp.ret ?_ | refine thenK_n ?_ | refine thenK_r ?_ | refine thenK_e ?_ | refine blockK_n ?_ | refine blockK_r ?_ | refine blockK_e ?_ | refine blockK_o (by decide) ?_ | (refine Wp.condT ?_ ?_; focus (simp -implicitDefEqProofs [hw0, hw1, hw2, hwm, c1, c2, c3, c4, c5, c6] <;> fail)) | (refine Wp.condF ?_ ?_; focus (simp -implicitDefEqProofs [hw0, hw1, hw2, hwm, c1, c2, c3, c4, c5, c6] <;> fail)) | refine Wp.reg (by simp -implicitDefEqProofs [hw0, hw1, hw2, hwm, c1, c2, c3, c4, c5, c6]; exact ⟨rfl, rfl⟩) ?_ | refine Wp.regA (by simp -implicitDefEqProofs [hw0, hw1, hw2, hwm, c1, c2, c3, c4, c5, c6]; exact ⟨rfl, rfl⟩) (by rfl) ?_ | refine Wp.unroll ?_))
    (apply endK_r; (focus (simp -implicitDefEqProofs [Tryz.f18]; try rfl)); (focus (intro g; simp -implicitDefEqProofs [Tryz.f18])); exact ⟨_, rfl⟩)
  · obtain ⟨b, j2, hb⟩ : ∃ b j2, plainP zs i3 = (b, j2) := ⟨_, _, rfl⟩
    have b1 := plainP_le (zs := zs) v1
    have b2 := plainP_ok zs i3
    have d2 := fun g b S h => mkPlain_c (E := E) zs hz i3 v1 g b S h
    rw [hb] at b1 b2 d2
    obtain ⟨w, j3, hw⟩ : ∃ w j3, valueP zs b j2 = (w, j3) := ⟨_, _, rfl⟩
    have w1 := valueP_le (zs := zs) b b1
    have w2 := valueP_ok zs b j2 b2.1
    have d3 := fun g b' S o h => mkValue_c (E := E) zs hz b j2 b2.1 b1 g b' S o h
    simp only at b1 b2 d2 w1 w2 d3
    rw [hw] at w1 w2 d3
    simp only at w1 w2 d3
    obtain ⟨r, i4, hr⟩ : ∃ r i4, plainP zs j3 = (r, i4) := ⟨_, _, rfl⟩
    have r1 := plainP_le (zs := zs) w1
    have r2 := plainP_ok zs j3
    have c4 := fun g b S h => mkPlain_c (E := E) zs hz j3 w1 g b S h
    rw [hr] at r1 r2 c4
    simp only at r1 r2 c4
    have c5 := mkTerm_c (E := E) zs hz 3 i4 r [a, b] (by decide) (by omega) (by simp) (by simp; omega) r1
    obtain ⟨x, i5, hx⟩ : ∃ x i5, termP zs 3 r [a, b] i4 = (x, i5) := ⟨_, _, rfl⟩
    obtain ⟨hi5, hxs, hxz, ⟨bb, hb3, hbb, hxi⟩, dx, hsem⟩ := termP_facts hx (by decide) (by omega) (by simp; omega) (by simp) r1
    rw [hx] at c5
    have hF : funP zs i = (.lam a (.lam b x), [v, w], i5) := by simp [funP, hp, ha, hv, hb, hw, hr, hx]
    rw [hF]
    refine ⟨?_, hi5, by simp [Tm.small, hxs]; omega, by simp only [Tm.size]; omega, ⟨bb, hb3, hbb, by simpa [Tm.idx] using hxi⟩, .two (.lam (.lam hsem)) r2.1 v2.1 v2.2 w2.1 w2.2 a2.2 b2.2 r2.2⟩
    have c6 := pLam24_c (E := E) b.raw x.raw
    have c7 := pLam24_c (E := E) a.raw (.mk 2 0 b.raw [x.raw])
    simp at c2 c3 c4 c5 c6 c7 d2 d3
    simp only [deck_eq, Tm.raw]
    simp
    refine den_w (fn := Tryz.f18) (σ1 := [[.sl (zs.map ic) .dead, .int .i64 i5]]) (by rfl) (by rfl) (by kernel_rfl) rfl (by rfl) (by rfl) (by simp) ?_
    simp
    (repeat (first | refine Wp.seq ?_ | refine Wp.block ?_ | refine Wp.skip ?_ | refine Wp.exit ?_ | refine Wp.ret ?_ | refine thenK_n ?_ | refine thenK_r ?_ | refine thenK_e ?_ | refine blockK_n ?_ | refine blockK_r ?_ | refine blockK_e ?_ | refine blockK_o (by decide) ?_ | (refine Wp.condT ?_ ?_; focus (simp -implicitDefEqProofs [hw0, hw1, hw2, hwm, c1, c2, c3, c4, c5, c6, c7, d2, d3] <;> fail)) | (refine Wp.condF ?_ ?_; focus (simp -implicitDefEqProofs [hw0, hw1, hw2, hwm, c1, c2, c3, c4, c5, c6, c7, d2, d3] <;> fail)) | refine Wp.reg (by simp -implicitDefEqProofs [hw0, hw1, hw2, hwm, c1, c2, c3, c4, c5, c6, c7, d2, d3]; exact ⟨rfl, rfl⟩) ?_ | refine Wp.regA (by simp -implicitDefEqProofs [hw0, hw1, hw2, hwm, c1, c2, c3, c4, c5, c6, c7, d2, d3]; exact ⟨rfl, rfl⟩) (by rfl) ?_ | refine Wp.unroll ?_))
    (apply endK_r; (focus (simp -implicitDefEqProofs [Tryz.f18]; try rfl)); (focus (intro g; simp -implicitDefEqProofs [Tryz.f18])); exact ⟨_, rfl⟩)
theorem playFunction_c (zs : List Int) (hz : zs.length ≤ 1000000) (i : Nat) (hi : i ≤ zs.length) (g b : Nat) (S : St) (hS : sd S.σ b = some [.sl (zs.map ic) .dead, .int .i64 i]) :
    callT (X.at g) (den X E) S 18 [.loc b 0] = some (.tup [.agg [.int .i64 (funP zs i).1.raw.k, .int .i64 (funP zs i).1.raw.i, .int .i64 (funP zs i).1.raw.ty.k, .sl (List.map RT.cells (funP zs i).1.raw.ty.as) .dead, .sl (List.map RM.cells (funP zs i).1.raw.as) .dead], .sl ((funP zs i).2.1.map (RV.cells ∘ V.rv)) .dead], { S with σ := S.σ.set b [.sl (zs.map ic) .dead, .int .i64 (funP zs i).2.2] }) := by
  simpa using call_upD (cf := X.at g) (fn := Tryz.f18) (args' := []) (by kernel_rfl) rfl (by rfl) (by rfl) (by simp) (by simp) (by simp) (by simp) (playFunction zs hz i hi).1 S hS
end M
end Go.Proofs.YthclcchnodjjpaaGreatDoor
/- ref06.Call of what play.Function makes; what bounds what. -/
set_option linter.unusedVariables false
set_option linter.unusedSimpArgs false
set_option maxRecDepth 10000
set_option maxHeartbeats 4000000
namespace Go.Proofs.YthclcchnodjjpaaGreatDoor
namespace M
attribute [local irreducible] Wp thenK blockK endK
variable {E : Oracle}
open T (V Ty Tm noTy Ans Res Env tyR resT resE VT VB Means Maj Mon back)
attribute [local simp] noTy
def tyC (t : Tm) : Res := if t.size ≤ 4096 then tyR [] t else .inr 4
def runN (M : Nat) (t : Tm) : List V → Ans
  | [v] => run1 M t v
  | [v, w] => run2 M t v w
  | _ => run0 M t
theorem typeOfBig (t : Tm) (hn : 4096 < t.size) (hn2 : t.size ≤ 1000000) (hs : t.small = true) : den X E 16 [.sl [] .dead, t.raw.enc] [] = some (.tup [(RT.mk 0 []).enc, .int .i64 4], []) := by
  have hnod : t.raw.nodes ≤ 1000000000 := by have := t.raw_nodes hs; omega
  have he : t.raw.err = 4 := by rw [t.raw_err hs, if_neg (by omega)]
  have c0 := check2_c (E := E) (k := t.raw.k) (i := t.raw.i) (m := t.raw.ty.k) (us := t.raw.ty.as) (ts := t.raw.as) (by simpa using hnod)
  simp [he] at c0
  have c1 := context1_c (E := E) (g' := []) (by simp) (by simp)
  have c2 : den X E 60 [.sl [] .dead, t.raw.enc] [] = some (.tup [(RT.mk 0 []).enc, .int .i64 4], []) := by
    refine den_w0 (fn := Tryz.f60) (by rfl) (by rfl) (by kernel_rfl) rfl (by rfl) ?_
    simp -implicitDefEqProofs
    (repeat (first | refine Wp.seq ?_ | refine Wp.block ?_ | refine Wp.skip ?_ | refine Wp.exit ?_ | refine Wp.ret ?_ | refine thenK_n ?_ | refine thenK_r ?_ | refine thenK_e ?_ | refine blockK_n ?_ | refine blockK_r ?_ | refine blockK_e ?_ | refine blockK_o (by decide) ?_ | (refine Wp.condT ?_ ?_; focus (simp -implicitDefEqProofs [c0] <;> fail)) | (refine Wp.condF ?_ ?_; focus (simp -implicitDefEqProofs [c0] <;> fail)) | refine Wp.reg (by simp -implicitDefEqProofs [c0]; exact ⟨rfl, rfl⟩) ?_ | refine Wp.regA (by simp -implicitDefEqProofs [c0]; exact ⟨rfl, rfl⟩) (by rfl) ?_))
    (apply endK_r; (focus (simp -implicitDefEqProofs [Tryz.f60]; try rfl)); (focus (intro g; simp -implicitDefEqProofs [Tryz.f60])); exact ⟨_, rfl⟩)
  have c3 : ∀ (g : Nat) (S : St) (o1 o2 o3 : Own), callT (X.at g) (den X E) S 60 [.sl [] o1, .agg [.int .i64 t.raw.k, .int .i64 t.raw.i, .int .i64 t.raw.ty.k, .sl (List.map RT.cells t.raw.ty.as) o2, .sl (List.map RM.cells t.raw.as) o3]] = some (.tup [.agg [.int .i64 0, .sl (List.map RT.cells []) .dead], .int .i64 4], S) := by
    intros
    simpa using call_up (cf := X.at _) (fn := Tryz.f60) (args' := [_, _]) (by kernel_rfl) (by simp) (by simp; try rfl) (by simpa using c2) _
  simp at c1 c3
  refine den_w0 (fn := Tryz.f16) (by rfl) (by rfl) (by kernel_rfl) rfl (by rfl) ?_
  simp -implicitDefEqProofs
  (repeat (first | refine Wp.seq ?_ | refine Wp.block ?_ | refine Wp.skip ?_ | refine Wp.exit ?_ | refine Wp.ret ?_ | refine thenK_n ?_ | refine thenK_r ?_ | refine thenK_e ?_ | refine blockK_n ?_ | refine blockK_r ?_ | refine blockK_e ?_ | refine blockK_o (by decide) ?_ | (refine Wp.condT ?_ ?_; focus (simp -implicitDefEqProofs [c1, c3] <;> fail)) | (refine Wp.condF ?_ ?_; focus (simp -implicitDefEqProofs [c1, c3] <;> fail)) | refine Wp.reg (by simp -implicitDefEqProofs [c1, c3]; exact ⟨rfl, rfl⟩) ?_ | refine Wp.regA (by simp -implicitDefEqProofs [c1, c3]; exact ⟨rfl, rfl⟩) (by rfl) ?_))
  (apply endK_r; (focus (simp -implicitDefEqProofs [Tryz.f16]; try rfl)); (focus (intro g; simp -implicitDefEqProofs [Tryz.f16])); exact ⟨_, rfl⟩)
theorem callBig (t : Tm) (hn : 4096 < t.size) (hn2 : t.size ≤ 1000000) (hs : t.small = true) (l : List V) (M : Nat) : den X E 19 [t.raw.enc, .sl (l.map (RV.cells ∘ V.rv)) .dead, .int .i64 M] [] = some (callEnc (zeroV, 0, 4), []) := by
  have c1 : ∀ (g : Nat) (S : St) (o1 o2 o3 : Own), callT (X.at g) (den X E) S 16 [.sl [] o1, .agg [.int .i64 t.raw.k, .int .i64 t.raw.i, .int .i64 t.raw.ty.k, .sl (List.map RT.cells t.raw.ty.as) o2, .sl (List.map RM.cells t.raw.as) o3]] = some (.tup [.agg [.int .i64 0, .sl (List.map RT.cells []) .dead], .int .i64 4], S) := by
    intros
    simpa using call_up (cf := X.at _) (fn := Tryz.f16) (args' := [_, _]) (by kernel_rfl) (by simp) (by simp; try rfl) (by simpa using typeOfBig (E := E) t hn hn2 hs) _
  simp at c1
  simp only [callEnc]
  refine den_w0 (fn := Tryz.f19) (by rfl) (by rfl) (by kernel_rfl) rfl (by rfl) ?_
  simp -implicitDefEqProofs
  (repeat (first | refine Wp.seq ?_ | refine Wp.block ?_ | refine Wp.skip ?_ | refine Wp.exit ?_ | refine Wp.ret ?_ | refine thenK_n ?_ | refine thenK_r ?_ | refine thenK_e ?_ | refine blockK_n ?_ | refine blockK_r ?_ | refine blockK_e ?_ | refine blockK_o (by decide) ?_ | (refine Wp.condT ?_ ?_; focus (simp -implicitDefEqProofs [c1] <;> fail)) | (refine Wp.condF ?_ ?_; focus (simp -implicitDefEqProofs [c1] <;> fail)) | refine Wp.reg (by simp -implicitDefEqProofs [c1]; exact ⟨rfl, rfl⟩) ?_ | refine Wp.regA (by simp -implicitDefEqProofs [c1]; exact ⟨rfl, rfl⟩) (by rfl) ?_))
  (apply endK_r; (focus (simp -implicitDefEqProofs [Tryz.f19]; try rfl)); (focus (intro g; simp -implicitDefEqProofs [Tryz.f19])); exact ⟨_, rfl⟩)
theorem rcallF {C : Nat} {t : Tm} {ins : List V} (h : FnOk C t ins) (hC : C ≤ 100000000) (hts : t.small = true) (hsz : t.size ≤ 1000000) {M : Nat} (hM : M ≤ 65536) :
    den X E 19 [t.raw.enc, .sl (ins.map (RV.cells ∘ V.rv)) .dead, .int .i64 M] [] = some (callEnc (callRes (tyC t) (runN M t ins)), []) := by
  unfold tyC
  by_cases h4 : t.size ≤ 4096
  · rw [if_pos h4]
    cases h with
    | one hs hr hv hn _ _ => exact rcall1 hs hr hv hn hC hts h4 hM
    | two hs hr hv hn hw hn2 _ _ _ => exact rcall2 hs hr hv hn hw hn2 hC hts h4 hM
  · rw [if_neg h4]
    exact callBig t (by omega) hsz hts ins M
theorem rcallF_c {C : Nat} {t : Tm} {ins : List V} {M : Nat} (h : FnOk C t ins) (hC : C ≤ 100000000) (hts : t.small = true) (hsz : t.size ≤ 1000000) (hM : M ≤ 65536) (g : Nat) (S : St) (o1 o2 o3 : Own) : callT (X.at g) (den X E) S 19 [.agg [.int .i64 t.raw.k, .int .i64 t.raw.i, .int .i64 t.raw.ty.k, .sl (List.map RT.cells t.raw.ty.as) o1, .sl (List.map RM.cells t.raw.as) o2], .sl (ins.map (RV.cells ∘ V.rv)) o3, .int .i64 M] = some (.tup [.agg [.int .i64 (callRes (tyC t) (runN M t ins)).1.k, .int .i64 (callRes (tyC t) (runN M t ins)).1.n, .sl (List.map ic (callRes (tyC t) (runN M t ins)).1.l) .dead, .sl (List.map RV.cells (callRes (tyC t) (runN M t ins)).1.as) .dead], .int .i64 (callRes (tyC t) (runN M t ins)).2.1, .int .i64 (callRes (tyC t) (runN M t ins)).2.2], S) := by
  simpa using call_up (cf := X.at g) (fn := Tryz.f19) (args' := [.agg [.int .i64 t.raw.k, .int .i64 t.raw.i, .int .i64 t.raw.ty.k, .sl (List.map RT.cells t.raw.ty.as) o1, .sl (List.map RM.cells t.raw.as) o2], .sl (ins.map (RV.cells ∘ V.rv)) o3, .int .i64 M]) (by kernel_rfl) (by simp) (by simp; try rfl) (by simpa [callEnc] using rcallF (E := E) h hC hts hsz hM) S
/-- What is returned: an error of the limits, or a value. -/
theorem callRes_cases {t : Tm} {s : Ty} {d : Env [] → s.den} (h : T.Sem [] t s d) (p : Ans) : (callRes (tyC t) p = (V.rv p.1, (p.2.1 : Int), 0) ∧ p.2.2 = false) ∨ callRes (tyC t) p = (zeroV, 0, 4) ∨ callRes (tyC t) p = (zeroV, 0, 5) := by
  have ht : (∃ u, tyC t = .inl u) ∨ tyC t = .inr 4 := by
    unfold tyC
    split
    · rcases h.tyR with h | h
      · exact .inl ⟨_, h⟩
      · exact .inr h
    · exact .inr rfl
  rcases ht with ⟨u, hu⟩ | hu
  · rw [hu]
    unfold callRes
    by_cases o : p.2.2 = true
    · exact .inr (.inr (by simp [o]))
    · exact .inl ⟨by simp [o], by simpa using o⟩
  · rw [hu]; exact .inr (.inl rfl)
theorem FnOk.sem {C : Nat} {t : Tm} {ins : List V} (h : FnOk C t ins) : ∃ (s : Ty) (d : Env [] → s.den), T.Sem [] t s d := by
  cases h with
  | one hs _ _ _ _ _ => exact ⟨_, _, hs⟩
  | two hs _ _ _ _ _ _ _ _ => exact ⟨_, _, hs⟩

/-- What a run means. -/
theorem run1_means {M C : Nat} {t : Tm} {a r : Ty} {d : Env [] → (Ty.fn a r).den} {v : V} (h : T.Sem [] t (.fn a r) d) (hr : r.data = true) (hv : VD a v) (hn : VN C v) (o : (run1 M t v).2.2 = false) (x : a.den) (hx : v = back a x) :
    (run1 M t v).1 = back r (d () x) ∧ VD r (run1 M t v).1 ∧ VN (C + M) (run1 M t v).1 := by
  obtain ⟨h1, h2⟩ := run1_okr (M := M) h hv hn
  obtain ⟨b, e, m, k, m', k', e1, e2, e3, t1, b1⟩ := h2 o
  have hd := VT.vd t1 hr
  obtain ⟨_, _, hc, hm⟩ := h.means (ρ := ()) (by trivial) e1
  cases hc
  have h3 := hm v x ((T.means_data a v x hv.data).2 hx) _ _ _ e2
  exact ⟨(T.means_data r _ _ hr).1 h3, hd, (VB.vn hd b1).mono (by omega)⟩
theorem run2_means {M C : Nat} {t : Tm} {a b r : Ty} {d : Env [] → (Ty.fn a (.fn b r)).den} {v w : V} (h : T.Sem [] t (.fn a (.fn b r)) d) (hr : r.data = true) (hv : VD a v) (hn : VN C v) (hw : VD b w) (hn2 : VN C w) (o : (run2 M t v w).2.2 = false) (x : a.den) (hx : v = back a x) (y : b.den) (hy : w = back b y) :
    (run2 M t v w).1 = back r (d () x y) ∧ VD r (run2 M t v w).1 ∧ VN (C + M) (run2 M t v w).1 := by
  obtain ⟨h1, h2⟩ := run2_okr (M := M) h hv hn hw hn2
  obtain ⟨c, e, c', e', m, k, m', k', m'', k'', e1, e2, e2', e3, t1, b1⟩ := h2 o
  have hd := VT.vd t1 hr
  obtain ⟨_, _, hc, hm⟩ := h.means (ρ := ()) (by trivial) e1
  cases hc
  obtain ⟨_, _, hc, hm'⟩ := hm v x ((T.means_data a v x hv.data).2 hx) _ _ _ e2
  cases hc
  have h3 := hm' w y ((T.means_data b w y hw.data).2 hy) _ _ _ e2'
  exact ⟨(T.means_data r _ _ hr).1 h3, hd, (VB.vn hd b1).mono (by omega)⟩

/-- THE THEOREM OF MAJORANTS, of what is run. -/
theorem run_bounds {C : Nat} {t : Tm} {ins : List V} (h : FnOk C t ins) {M N : Nat} (o1 : (runN M t ins).2.2 = false) (o2 : (runN N t.star (ins.map V.bnd)).2.2 = false) :
    ∃ r : Ty, r.size ≤ 3 ∧ VD r (runN M t ins).1 ∧ VN (C + M) (runN M t ins).1 ∧ VD r.star (runN N t.star (ins.map V.bnd)).1 ∧ VN (C + N) (runN N t.star (ins.map V.bnd)).1 ∧ V.over (runN N t.star (ins.map V.bnd)).1 (runN M t ins).1 = true := by
  cases h with
  | @one a r d v hs hr hv hn ha3 hr3 =>
    obtain ⟨d', hs', hmaj, _⟩ := hs.star
    obtain ⟨x, hx⟩ := vd_back hv
    obtain ⟨y, hy, hxy⟩ := bnd_maj a x hv.data
    obtain ⟨g1, g2, g3⟩ := run1_means hs hr hv hn o1 x hx
    have hrs : r.star.data = true := by rw [Ty.star_data]; exact hr
    obtain ⟨k1, k2, k3⟩ := run1_means (t := t.star) (a := a.star) (r := r.star) (d := d') hs' hrs hv.bnd hn.bnd o2 y (by rw [hx]; exact hy)
    refine ⟨r, hr3, g2, g3, k2, k3, ?_⟩
    show V.over (run1 N t.star (V.bnd v)).1 (run1 M t v).1 = true
    rw [g1, k1]
    exact (over_maj r _ _ hr).2 (hmaj () () (by trivial) _ _ hxy)
  | @two a b r d v w hs hr hv hn hw hn2 ha3 hb3 hr3 =>
    obtain ⟨d', hs', hmaj, _⟩ := hs.star
    obtain ⟨x, hx⟩ := vd_back hv
    obtain ⟨y, hy, hxy⟩ := bnd_maj a x hv.data
    obtain ⟨x', hx'⟩ := vd_back hw
    obtain ⟨y', hy', hxy'⟩ := bnd_maj b x' hw.data
    obtain ⟨g1, g2, g3⟩ := run2_means hs hr hv hn hw hn2 o1 x hx x' hx'
    have hrs : r.star.data = true := by rw [Ty.star_data]; exact hr
    obtain ⟨k1, k2, k3⟩ := run2_means (t := t.star) (a := a.star) (b := b.star) (r := r.star) (d := d') hs' hrs hv.bnd hn.bnd hw.bnd hn2.bnd o2 y (by rw [hx]; exact hy) y' (by rw [hx']; exact hy')
    refine ⟨r, hr3, g2, g3, k2, k3, ?_⟩
    show V.over (run2 N t.star (V.bnd v) (V.bnd w)).1 (run2 M t v w).1 = true
    rw [g1, k1]
    exact (over_maj r _ _ hr).2 (hmaj () () (by trivial) _ _ hxy _ _ hxy')
theorem FnOk.star {C : Nat} {t : Tm} {ins : List V} (h : FnOk C t ins) : FnOk C t.star (ins.map V.bnd) := by
  cases h with
  | @one a r d v hs hr hv hn ha3 hr3 =>
    obtain ⟨d', hs', _, _⟩ := hs.star
    exact .one (a := a.star) (r := r.star) (d := d') hs' (by rw [Ty.star_data]; exact hr) hv.bnd hn.bnd (by rw [Ty.star_size]; exact ha3) (by rw [Ty.star_size]; exact hr3)
  | @two a b r d v w hs hr hv hn hw hn2 ha3 hb3 hr3 =>
    obtain ⟨d', hs', _, _⟩ := hs.star
    exact .two (a := a.star) (b := b.star) (r := r.star) (d := d') hs' (by rw [Ty.star_data]; exact hr) hv.bnd hn.bnd hw.bnd hn2.bnd (by rw [Ty.star_size]; exact ha3) (by rw [Ty.star_size]; exact hb3) (by rw [Ty.star_size]; exact hr3)
/-- A majorant grows with its arguments, of what is run. -/
theorem run_grows {C : Nat} {t : Tm} {ins lo hi : List V} (h : FnOk C t ins) {M N D : Nat} (hl : lo = ins.map V.bnd) (hlen : hi.length = lo.length)
    (hh : ∀ (i : Nat) (s : Ty) (a b : V), s.bare = true → lo[i]? = some a → hi[i]? = some b → VD s a → VD s b ∧ VN D b ∧ ∃ x y : s.den, a = back s x ∧ b = back s y ∧ Mon s y x) (hCD : C ≤ D) :
    FnOk D t.star hi ∧ ((runN M t.star lo).2.2 = false → (runN N t.star hi).2.2 = false →
    ∃ r : Ty, r.size ≤ 3 ∧ r.bare = true ∧ VD r (runN M t.star lo).1 ∧ VN (C + M) (runN M t.star lo).1 ∧ VD r (runN N t.star hi).1 ∧ VN (D + N) (runN N t.star hi).1 ∧ ∃ x y : r.den, (runN M t.star lo).1 = back r x ∧ (runN N t.star hi).1 = back r y ∧ Mon r y x) := by
  subst hl
  cases h with
  | @one a r d v hs hr hv hn ha3 hr3 =>
    obtain ⟨d', hs', _, hmon⟩ := hs.star
    obtain ⟨b, rfl⟩ : ∃ b, hi = [b] := by match hi, hlen with | [b], _ => exact ⟨b, rfl⟩
    obtain ⟨hb, hbn, x, y, hx, hy, hxy⟩ := hh 0 a.star (V.bnd v) b (Ty.bare_star a) rfl rfl hv.bnd
    have hrs : r.star.data = true := by rw [Ty.star_data]; exact hr
    refine ⟨.one (a := a.star) (r := r.star) (d := d') hs' hrs hb hbn (by rw [Ty.star_size]; exact ha3) (by rw [Ty.star_size]; exact hr3), fun o1 o2 => ?_⟩
    obtain ⟨k1, k2, k3⟩ := run1_means (t := t.star) (a := a.star) (r := r.star) (d := d') hs' hrs hv.bnd hn.bnd o1 x hx
    obtain ⟨g1, g2, g3⟩ := run1_means (t := t.star) (a := a.star) (r := r.star) (d := d') hs' hrs hb hbn o2 y hy
    exact ⟨r.star, by rw [Ty.star_size]; exact hr3, Ty.bare_star r, k2, k3, g2, g3, _, _, k1, g1, hmon () () trivial _ _ hxy⟩
  | @two a b r d v w hs hr hv hn hw hn2 ha3 hb3 hr3 =>
    obtain ⟨d', hs', _, hmon⟩ := hs.star
    obtain ⟨c, e, rfl⟩ : ∃ c e, hi = [c, e] := by match hi, hlen with | [c, e], _ => exact ⟨c, e, rfl⟩
    obtain ⟨hb, hbn, x, y, hx, hy, hxy⟩ := hh 0 a.star (V.bnd v) c (Ty.bare_star a) rfl rfl hv.bnd
    obtain ⟨he, hen, x', y', hx', hy', hxy'⟩ := hh 1 b.star (V.bnd w) e (Ty.bare_star b) rfl rfl hw.bnd
    have hrs : r.star.data = true := by rw [Ty.star_data]; exact hr
    refine ⟨.two (a := a.star) (b := b.star) (r := r.star) (d := d') hs' hrs hb hbn he hen (by rw [Ty.star_size]; exact ha3) (by rw [Ty.star_size]; exact hb3) (by rw [Ty.star_size]; exact hr3), fun o1 o2 => ?_⟩
    obtain ⟨k1, k2, k3⟩ := run2_means (t := t.star) (a := a.star) (b := b.star) (r := r.star) (d := d') hs' hrs hv.bnd hn.bnd hw.bnd hn2.bnd o1 x hx x' hx'
    obtain ⟨g1, g2, g3⟩ := run2_means (t := t.star) (a := a.star) (b := b.star) (r := r.star) (d := d') hs' hrs hb hbn he hen o2 y hy y' hy'
    exact ⟨r.star, by rw [Ty.star_size]; exact hr3, Ty.bare_star r, k2, k3, g2, g3, _, _, k1, g1, hmon () () trivial _ _ hxy _ _ hxy'⟩
end M
end Go.Proofs.YthclcchnodjjpaaGreatDoor
/- law33.MajorantBounds. -/
set_option linter.unusedVariables false
set_option linter.unusedSimpArgs false
set_option maxRecDepth 10000
set_option maxHeartbeats 4000000
namespace Go.Proofs.YthclcchnodjjpaaGreatDoor
namespace M
attribute [local irreducible] Wp thenK blockK endK
variable {E : Oracle}
open T (V Ty Tm noTy Ans Res Env tyR resT resE VT VB)
attribute [local simp] noTy
theorem FnOk.shape {C : Nat} {t : Tm} {ins : List V} (h : FnOk C t ins) : (∃ a v, ins = [v] ∧ VD a v ∧ VN C v ∧ a.size ≤ 3) ∨ ∃ a b v w, ins = [v, w] ∧ VD a v ∧ VN C v ∧ a.size ≤ 3 ∧ VD b w ∧ VN C w ∧ b.size ≤ 3 := by
  cases h with
  | one hs hr hv hn ha3 hr3 => exact .inl ⟨_, _, rfl, hv, hn, ha3⟩
  | two hs hr hv hn hw hn2 ha3 hb3 hr3 => exact .inr ⟨_, _, _, _, rfl, hv, hn, ha3, hw, hn2, hb3⟩
theorem majorantBounds (zs : List Int) : den X E 4 [.sl (zs.map ic) .dead] [] = some (.bool true, []) := by
  by_cases hf : zs.length ≤ 500
  rotate_left
  · have c1 := few1_c (E := E) zs
    simp [hf] at c1
    refine den_w0 (fn := Tryz.f4) (by rfl) (by rfl) (by kernel_rfl) rfl (by rfl) ?_
    simp -implicitDefEqProofs
    (repeat (first | refine Wp.seq ?_ | refine Wp.block ?_ | refine Wp.skip ?_ | refine Wp.exit ?_ | refine Wp.ret ?_ | refine thenK_n ?_ | refine thenK_r ?_ | refine thenK_e ?_ | refine blockK_n ?_ | refine blockK_r ?_ | refine blockK_e ?_ | refine blockK_o (by decide) ?_ | (refine Wp.condT ?_ ?_; focus (simp -implicitDefEqProofs [awake33_c, c1] <;> fail)) | (refine Wp.condF ?_ ?_; focus (simp -implicitDefEqProofs [awake33_c, c1] <;> fail)) | refine Wp.reg (by simp -implicitDefEqProofs [awake33_c, c1]; exact ⟨rfl, rfl⟩) ?_ | refine Wp.regA (by simp -implicitDefEqProofs [awake33_c, c1]; exact ⟨rfl, rfl⟩) (by rfl) ?_))
    (apply endK_r; (focus (simp -implicitDefEqProofs [Tryz.f4]; try rfl)); (focus (intro g; simp -implicitDefEqProofs [Tryz.f4])); exact ⟨_, rfl⟩)
  have c1 := few1_c (E := E) zs
  simp [hf] at c1
  have c2 := new1_c (E := E) zs
  have hz : zs.length ≤ 1000000 := by omega
  have hw1 : IntKind.i64.wrap 1 = 1 := by decide
  have hw2 : IntKind.i64.wrap 2 = 2 := by decide
  have hpf := playFunction (E := E) zs hz 0 (Nat.zero_le _)
  have c3 := playFunction_c (E := E) zs hz 0 (Nat.zero_le _)
  obtain ⟨t, ins, j, hF⟩ : ∃ t ins j, funP zs 0 = (t, ins, j) := ⟨_, _, _, rfl⟩
  rw [hF] at hpf c3
  obtain ⟨_, hj, hts, htz, ⟨b, hb3, hb, hti⟩, hfn⟩ := hpf
  simp only at hj hts htz hti hfn c3
  obtain ⟨sT, dT, hsem⟩ := hfn.sem
  have c4 := rcallF_c (E := E) (M := 20000) hfn (by decide) hts (by omega) (by decide)
  have c5 := mjTermR_c (E := E) hb3 hb (by omega) hts hti
  have hcases := callRes_cases hsem (runN 20000 t ins)
  revert c4 hcases
  generalize hx : callRes (tyC t) (runN 20000 t ins) = x
  intro c4 hcases
  have hshape := hfn.shape
  have hbig : x.2.2 ≠ 0 → den X E 4 [.sl (zs.map ic) .dead] [] = some (.bool true, []) := by
    intro hne
    simp at c3 c4 c5
    refine den_w0 (fn := Tryz.f4) (by rfl) (by rfl) (by kernel_rfl) rfl (by rfl) ?_
    simp -implicitDefEqProofs
    (repeat (first | refine Wp.seq ?_ | refine Wp.block ?_ | refine Wp.skip ?_ | refine Wp.exit ?_ | refine Wp.ret ?_ | refine thenK_n ?_ | refine thenK_r ?_ | refine thenK_e ?_ | refine blockK_n ?_ | refine blockK_r ?_ | refine blockK_e ?_ | refine blockK_o (by decide) ?_ | (refine Wp.condT ?_ ?_; focus (simp -implicitDefEqProofs [awake33_c, c1, c2, c3, c4, c5, hne] <;> fail)) | (refine Wp.condF ?_ ?_; focus (simp -implicitDefEqProofs [awake33_c, c1, c2, c3, c4, c5, hne] <;> fail)) | refine Wp.reg (by simp -implicitDefEqProofs [awake33_c, c1, c2, c3, c4, c5, hne]; exact ⟨rfl, rfl⟩) ?_ | refine Wp.regA (by simp -implicitDefEqProofs [awake33_c, c1, c2, c3, c4, c5, hne]; exact ⟨rfl, rfl⟩) (by rfl) ?_))
    (apply endK_r; (focus (simp -implicitDefEqProofs [Tryz.f4]; try rfl)); (focus (intro g; simp -implicitDefEqProofs [Tryz.f4])); exact ⟨_, rfl⟩)
  rcases hcases with ⟨hA, o1⟩ | hA | hA
  rotate_left
  · exact hbig (by rw [hA]; decide)
  · exact hbig (by rw [hA]; decide)
  clear hbig
  rw [hA] at c4
  clear hA hx x
  rcases mjRes_or t with ⟨hm, ht4, hst⟩ | hm
  rotate_left
  · rw [hm] at c5
    simp at c3 c4 c5
    refine den_w0 (fn := Tryz.f4) (by rfl) (by rfl) (by kernel_rfl) rfl (by rfl) ?_
    simp -implicitDefEqProofs
    (repeat (first | refine Wp.seq ?_ | refine Wp.block ?_ | refine Wp.skip ?_ | refine Wp.exit ?_ | refine Wp.ret ?_ | refine thenK_n ?_ | refine thenK_r ?_ | refine thenK_e ?_ | refine blockK_n ?_ | refine blockK_r ?_ | refine blockK_e ?_ | refine blockK_o (by decide) ?_ | (refine Wp.condT ?_ ?_; focus (simp -implicitDefEqProofs [awake33_c, c1, c2, c3, c4, c5] <;> fail)) | (refine Wp.condF ?_ ?_; focus (simp -implicitDefEqProofs [awake33_c, c1, c2, c3, c4, c5] <;> fail)) | refine Wp.reg (by simp -implicitDefEqProofs [awake33_c, c1, c2, c3, c4, c5]; exact ⟨rfl, rfl⟩) ?_ | refine Wp.regA (by simp -implicitDefEqProofs [awake33_c, c1, c2, c3, c4, c5]; exact ⟨rfl, rfl⟩) (by rfl) ?_))
    (apply endK_r; (focus (simp -implicitDefEqProofs [Tryz.f4]; try rfl)); (focus (intro g; simp -implicitDefEqProofs [Tryz.f4])); exact ⟨_, rfl⟩)
  rw [hm] at c5
  have hstar := hfn.star
  obtain ⟨sS, dS, hsemS⟩ := hstar.sem
  have c7 := rcallF_c (E := E) (M := 60000) hstar (by decide) (T.Tm.star_small t hts) (by omega) (by decide)
  have hcases2 := callRes_cases hsemS (runN 60000 t.star (ins.map V.bnd))
  have hrb := fun o2 => run_bounds hfn (M := 20000) (N := 60000) o1 o2
  revert c7 hcases2
  generalize callRes (tyC t.star) (runN 60000 t.star (ins.map V.bnd)) = y
  intro c7 hcases2
  revert c4 hrb
  generalize runN 20000 t ins = p
  intro c4 hrb
  revert hcases2 hrb
  generalize runN 60000 t.star (ins.map V.bnd) = q
  intro hcases2 hrb
  have fin : ∀ (z : RV), y.1 = z → (y.2.2 ≠ 0 → y.2.2 = 4 ∨ y.2.2 = 5) → (y.2.2 = 0 → ∀ (g : Nat) (S : St) (o1 o2 o3 o4 : Own), callT (X.at g) (den X E) S 22 [.agg [.int .i64 z.k, .int .i64 z.n, .sl (z.l.map ic) o1, .sl (z.as.map RV.cells) o2], .agg [.int .i64 (V.rv p.1).k, .int .i64 (V.rv p.1).n, .sl ((V.rv p.1).l.map ic) o3, .sl ((V.rv p.1).as.map RV.cells) o4]] = some (.bool true, S)) →
      den X E 4 [.sl (zs.map ic) .dead] [] = some (.bool true, []) := by
    intro z hz1 herr hmaj
    have c8 := limits33_c (E := E) y.2.2
    subst hz1
    by_cases hy0 : y.2.2 = 0
    · have c9 := hmaj hy0
      clear hmaj herr
      rw [hy0] at c7 c8
      simp at c8
      rcases hshape with ⟨a, v, rfl, hv, hn, ha3⟩ | ⟨a, b', v, w, rfl, hv, hn, ha3, hw, hn2, hb4⟩
      · have d1 := mjValue_c (E := E) hv (hn.mono (by omega)) (by omega)
        simp at c3 c4 c5 c7
        refine den_w0 (fn := Tryz.f4) (by rfl) (by rfl) (by kernel_rfl) rfl (by rfl) ?_
        simp -implicitDefEqProofs
        (repeat (first | refine Wp.seq ?_ | refine Wp.block ?_ | refine Wp.skip ?_ | refine Wp.exit ?_ | refine Wp.ret ?_ | refine thenK_n ?_ | refine thenK_r ?_ | refine thenK_e ?_ | refine blockK_n ?_ | refine blockK_r ?_ | refine blockK_e ?_ | refine blockK_o (by decide) ?_ | (refine Wp.condT ?_ ?_; focus (simp -implicitDefEqProofs [awake33_c, c1, c2, c3, c4, c5, c7, c8, c9, d1, hw1, hw2] <;> fail)) | (refine Wp.condF ?_ ?_; focus (simp -implicitDefEqProofs [awake33_c, c1, c2, c3, c4, c5, c7, c8, c9, d1, hw1, hw2] <;> fail)) | refine Wp.reg (by simp -implicitDefEqProofs [awake33_c, c1, c2, c3, c4, c5, c7, c8, c9, d1, hw1, hw2]; exact ⟨rfl, rfl⟩) ?_ | refine Wp.regA (by simp -implicitDefEqProofs [awake33_c, c1, c2, c3, c4, c5, c7, c8, c9, d1, hw1, hw2]; exact ⟨rfl, rfl⟩) (by rfl) ?_ | refine Wp.unroll ?_))
        (apply endK_r; (focus (simp -implicitDefEqProofs [Tryz.f4]; try rfl)); (focus (intro g; simp -implicitDefEqProofs [Tryz.f4])); exact ⟨_, rfl⟩)
      · have d1 := mjValue_c (E := E) hv (hn.mono (by omega)) (by omega)
        have d2 := mjValue_c (E := E) hw (hn2.mono (by omega)) (by omega)
        simp at c3 c4 c5 c7
        refine den_w0 (fn := Tryz.f4) (by rfl) (by rfl) (by kernel_rfl) rfl (by rfl) ?_
        simp -implicitDefEqProofs
        (repeat (first | refine Wp.seq ?_ | refine Wp.block ?_ | refine Wp.skip ?_ | refine Wp.exit ?_ | refine Wp.ret ?_ | refine thenK_n ?_ | refine thenK_r ?_ | refine thenK_e ?_ | refine blockK_n ?_ | refine blockK_r ?_ | refine blockK_e ?_ | refine blockK_o (by decide) ?_ | (refine Wp.condT ?_ ?_; focus (simp -implicitDefEqProofs [awake33_c, c1, c2, c3, c4, c5, c7, c8, c9, d1, d2, hw1, hw2] <;> fail)) | (refine Wp.condF ?_ ?_; focus (simp -implicitDefEqProofs [awake33_c, c1, c2, c3, c4, c5, c7, c8, c9, d1, d2, hw1, hw2] <;> fail)) | refine Wp.reg (by simp -implicitDefEqProofs [awake33_c, c1, c2, c3, c4, c5, c7, c8, c9, d1, d2, hw1, hw2]; exact ⟨rfl, rfl⟩) ?_ | refine Wp.regA (by simp -implicitDefEqProofs [awake33_c, c1, c2, c3, c4, c5, c7, c8, c9, d1, d2, hw1, hw2]; exact ⟨rfl, rfl⟩) (by rfl) ?_ | refine Wp.unroll ?_))
        (apply endK_r; (focus (simp -implicitDefEqProofs [Tryz.f4]; try rfl)); (focus (intro g; simp -implicitDefEqProofs [Tryz.f4])); exact ⟨_, rfl⟩)
    · have herr' := herr hy0
      have h45 : decide (y.2.2 = 4 ∨ y.2.2 = 5 ∨ y.2.2 = 3) = true := by rcases herr' with h | h <;> simp [h]
      rw [h45] at c8
      clear hmaj herr herr' h45
      rcases hshape with ⟨a, v, rfl, hv, hn, ha3⟩ | ⟨a, b', v, w, rfl, hv, hn, ha3, hw, hn2, hb4⟩
      · have d1 := mjValue_c (E := E) hv (hn.mono (by omega)) (by omega)
        simp at c3 c4 c5 c7
        refine den_w0 (fn := Tryz.f4) (by rfl) (by rfl) (by kernel_rfl) rfl (by rfl) ?_
        simp -implicitDefEqProofs
        (repeat (first | refine Wp.seq ?_ | refine Wp.block ?_ | refine Wp.skip ?_ | refine Wp.exit ?_ | refine Wp.ret ?_ | refine thenK_n ?_ | refine thenK_r ?_ | refine thenK_e ?_ | refine blockK_n ?_ | refine blockK_r ?_ | refine blockK_e ?_ | refine blockK_o (by decide) ?_ | (refine Wp.condT ?_ ?_; focus (simp -implicitDefEqProofs [awake33_c, c1, c2, c3, c4, c5, c7, c8, d1, hw1, hw2, hy0] <;> fail)) | (refine Wp.condF ?_ ?_; focus (simp -implicitDefEqProofs [awake33_c, c1, c2, c3, c4, c5, c7, c8, d1, hw1, hw2, hy0] <;> fail)) | refine Wp.reg (by simp -implicitDefEqProofs [awake33_c, c1, c2, c3, c4, c5, c7, c8, d1, hw1, hw2, hy0]; exact ⟨rfl, rfl⟩) ?_ | refine Wp.regA (by simp -implicitDefEqProofs [awake33_c, c1, c2, c3, c4, c5, c7, c8, d1, hw1, hw2, hy0]; exact ⟨rfl, rfl⟩) (by rfl) ?_ | refine Wp.unroll ?_))
        (apply endK_r; (focus (simp -implicitDefEqProofs [Tryz.f4]; try rfl)); (focus (intro g; simp -implicitDefEqProofs [Tryz.f4])); exact ⟨_, rfl⟩)
      · have d1 := mjValue_c (E := E) hv (hn.mono (by omega)) (by omega)
        have d2 := mjValue_c (E := E) hw (hn2.mono (by omega)) (by omega)
        simp at c3 c4 c5 c7
        refine den_w0 (fn := Tryz.f4) (by rfl) (by rfl) (by kernel_rfl) rfl (by rfl) ?_
        simp -implicitDefEqProofs
        (repeat (first | refine Wp.seq ?_ | refine Wp.block ?_ | refine Wp.skip ?_ | refine Wp.exit ?_ | refine Wp.ret ?_ | refine thenK_n ?_ | refine thenK_r ?_ | refine thenK_e ?_ | refine blockK_n ?_ | refine blockK_r ?_ | refine blockK_e ?_ | refine blockK_o (by decide) ?_ | (refine Wp.condT ?_ ?_; focus (simp -implicitDefEqProofs [awake33_c, c1, c2, c3, c4, c5, c7, c8, d1, d2, hw1, hw2, hy0] <;> fail)) | (refine Wp.condF ?_ ?_; focus (simp -implicitDefEqProofs [awake33_c, c1, c2, c3, c4, c5, c7, c8, d1, d2, hw1, hw2, hy0] <;> fail)) | refine Wp.reg (by simp -implicitDefEqProofs [awake33_c, c1, c2, c3, c4, c5, c7, c8, d1, d2, hw1, hw2, hy0]; exact ⟨rfl, rfl⟩) ?_ | refine Wp.regA (by simp -implicitDefEqProofs [awake33_c, c1, c2, c3, c4, c5, c7, c8, d1, d2, hw1, hw2, hy0]; exact ⟨rfl, rfl⟩) (by rfl) ?_ | refine Wp.unroll ?_))
        (apply endK_r; (focus (simp -implicitDefEqProofs [Tryz.f4]; try rfl)); (focus (intro g; simp -implicitDefEqProofs [Tryz.f4])); exact ⟨_, rfl⟩)
  rcases hcases2 with ⟨hB, o2⟩ | hB | hB
  · rw [hB] at fin
    obtain ⟨r, hr3, k1, k2, k3, k4, k5⟩ := hrb o2
    have c9 := majorizes_c (E := E) k1 (k2.mono (by omega)) k3 (k4.mono (by omega)) (by omega)
    rw [k5] at c9
    exact fin (V.rv q.1) rfl (fun h => absurd rfl h) (fun _ g S o1 o2 o3 o4 => c9 g S o1 o2 o3 o4)
  · rw [hB] at fin
    exact fin zeroV rfl (fun _ => .inl rfl) (fun h => by simp at h)
  · rw [hB] at fin
    exact fin zeroV rfl (fun _ => .inr rfl) (fun h => by simp at h)
end M
end Go.Proofs.YthclcchnodjjpaaGreatDoor
