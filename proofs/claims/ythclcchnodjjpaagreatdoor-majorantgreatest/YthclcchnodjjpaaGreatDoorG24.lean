/- A part of the proof: VaA, VaB. -/
import Derived.Test.YthclcchnodjjpaaGreatDoorG11
import Derived.Test.YthclcchnodjjpaaGreatDoorG23
import Derived.Test.YthclcchnodjjpaaGreatDoorG12
/- ref05: shape, nodes, Check, typed, TypeOf; ref33: value, Value; ref06: of, plain; on plain values. -/
set_option linter.unusedVariables false
set_option linter.unusedSimpArgs false
set_option maxRecDepth 10000
set_option maxHeartbeats 4000000
namespace Go.Proofs.YthclcchnodjjpaaGreatDoor
namespace M
attribute [local irreducible] Wp thenK blockK endK
variable {E : Oracle}
open T (V Ty Tm noTy VT VB)
attribute [local simp] noTy
theorem shape5 {s : Ty} {v : V} (h : VD s v) (hn : VN 1000000000 v) : den X E 104 [(V.rv v).enc] [] = some (.bool true, []) := by
  induction h with
  | num n =>
    have h0 : (0 : Int) ≤ n := by omega
    simp only [V.rv_num]
    refine den_w0 (fn := Tryz.f104) (by rfl) (by rfl) (by kernel_rfl) rfl (by rfl) ?_
    simp -implicitDefEqProofs
    (repeat (first | refine Wp.seq ?_ | refine Wp.block ?_ | refine Wp.skip ?_ | refine Wp.exit ?_ | refine Wp.ret ?_ | refine thenK_n ?_ | refine thenK_r ?_ | refine thenK_e ?_ | refine blockK_n ?_ | refine blockK_r ?_ | refine blockK_e ?_ | refine blockK_o (by decide) ?_ | (refine Wp.condT ?_ ?_; focus (simp -implicitDefEqProofs [h0] <;> fail)) | (refine Wp.condF ?_ ?_; focus (simp -implicitDefEqProofs [h0] <;> fail)) | refine Wp.reg (by simp -implicitDefEqProofs [h0]; exact ⟨rfl, rfl⟩) ?_ | refine Wp.regA (by simp -implicitDefEqProofs [h0]; exact ⟨rfl, rfl⟩) (by rfl) ?_))
    (apply endK_r; (focus (simp -implicitDefEqProofs [Tryz.f104]; try rfl)); (focus (intro g; simp -implicitDefEqProofs [Tryz.f104])); exact ⟨_, rfl⟩)
  | unit =>
    simp only [V.rv_unit]
    refine den_w0 (fn := Tryz.f104) (by rfl) (by rfl) (by kernel_rfl) rfl (by rfl) ?_
    simp -implicitDefEqProofs
    (repeat (first | refine Wp.seq ?_ | refine Wp.block ?_ | refine Wp.skip ?_ | refine Wp.exit ?_ | refine Wp.ret ?_ | refine thenK_n ?_ | refine thenK_r ?_ | refine thenK_e ?_ | refine blockK_n ?_ | refine blockK_r ?_ | refine blockK_e ?_ | refine blockK_o (by decide) ?_ | (refine Wp.condT ?_ ?_; focus (simp -implicitDefEqProofs <;> fail)) | (refine Wp.condF ?_ ?_; focus (simp -implicitDefEqProofs <;> fail)) | refine Wp.reg (by simp -implicitDefEqProofs; exact ⟨rfl, rfl⟩) ?_ | refine Wp.regA (by simp -implicitDefEqProofs; exact ⟨rfl, rfl⟩) (by rfl) ?_))
    (apply endK_r; (focus (simp -implicitDefEqProofs [Tryz.f104]; try rfl)); (focus (intro g; simp -implicitDefEqProofs [Tryz.f104])); exact ⟨_, rfl⟩)
  | list l =>
    cases hn with
    | list hl hx =>
    simp only [V.rv_list]
    refine den_w0 (fn := Tryz.f104) (by rfl) (by rfl) (by kernel_rfl) rfl (by rfl) ?_
    simp -implicitDefEqProofs
    (repeat (first | refine Wp.seq ?_ | refine Wp.block ?_ | refine Wp.skip ?_ | refine Wp.exit ?_ | refine Wp.ret ?_ | refine thenK_n ?_ | refine thenK_r ?_ | refine thenK_e ?_ | refine blockK_n ?_ | refine blockK_r ?_ | refine blockK_e ?_ | refine blockK_o (by decide) ?_ | (refine Wp.condT ?_ ?_; focus (simp -implicitDefEqProofs <;> fail)) | (refine Wp.condF ?_ ?_; focus (simp -implicitDefEqProofs <;> fail)) | refine Wp.reg (by simp -implicitDefEqProofs; exact ⟨rfl, rfl⟩) ?_ | refine Wp.regA (by simp -implicitDefEqProofs; exact ⟨rfl, rfl⟩) (by rfl) ?_))
    refine Wp.loopF [2, 4, 29, 30, 31, 32, 33, 34, 35] [] (fun n w c tk => ∃ done rest, l = done ++ rest ∧ n = rest.length ∧ w 29 = .int .i64 done.length) (l.length) ?_ ?_ ?_ ?_
    · rfl
    · rfl
    · exact ⟨[], l, by simp, rfl, rfl⟩
    rintro n w c junk tk r σ ⟨done, rest, hd, rfl, h29⟩ hr hσ
    simp -implicitDefEqProofs [h29] at hr hσ
    subst hr hσ
    rcases rest with _ | ⟨a, rest⟩
    · simp at hd
      subst hd
      (repeat (first | refine Wp.seq ?_ | refine Wp.block ?_ | refine Wp.skip ?_ | refine Wp.exit ?_ | refine Wp.ret ?_ | refine thenK_n ?_ | refine thenK_r ?_ | refine thenK_e ?_ | refine blockK_n ?_ | refine blockK_r ?_ | refine blockK_e ?_ | refine blockK_o (by decide) ?_ | (refine Wp.condT ?_ ?_; focus (simp -implicitDefEqProofs <;> fail)) | (refine Wp.condF ?_ ?_; focus (simp -implicitDefEqProofs <;> fail)) | refine Wp.reg (by simp -implicitDefEqProofs; exact ⟨rfl, rfl⟩) ?_ | refine Wp.regA (by simp -implicitDefEqProofs; exact ⟨rfl, rfl⟩) (by rfl) ?_))
      (apply endK_r; (focus (simp -implicitDefEqProofs [Tryz.f104]; try rfl)); (focus (intro g; simp -implicitDefEqProofs [Tryz.f104])); exact ⟨_, rfl⟩)
    · have ha : el l done.length = some a := by simp [hd]
      have hlt : done.length < l.length := by simp [hd]
      have hw : IntKind.i64.wrap ((done.length : Int) + 1) = done.length + 1 := IntWalk.i64_in _ (by omega)
      have h0 : ¬ (a : Int) < 0 := by omega
      (repeat (first | refine Wp.seq ?_ | refine Wp.block ?_ | refine Wp.skip ?_ | refine Wp.exit ?_ | refine Wp.ret ?_ | refine thenK_n ?_ | refine thenK_r ?_ | refine thenK_e ?_ | refine blockK_n ?_ | refine blockK_r ?_ | refine blockK_e ?_ | refine blockK_o (by decide) ?_ | (refine Wp.condT ?_ ?_; focus (simp -implicitDefEqProofs [ha, hlt, hw, h0] <;> fail)) | (refine Wp.condF ?_ ?_; focus (simp -implicitDefEqProofs [ha, hlt, hw, h0] <;> fail)) | refine Wp.reg (by simp -implicitDefEqProofs [ha, hlt, hw, h0]; exact ⟨rfl, rfl⟩) ?_ | refine Wp.regA (by simp -implicitDefEqProofs [ha, hlt, hw, h0]; exact ⟨rfl, rfl⟩) (by rfl) ?_))
      refine ⟨by simp, ⟨_, by simp -implicitDefEqProofs; rfl⟩, rest.length, by simp, done ++ [a], rest, by simp [hd], rfl, by simp⟩
  | @pair s u a b h1 h2 ih1 ih2 =>
    cases hn with
    | pair hn1 hn2 =>
    have c1 : ∀ (g : Nat) (S : St) (o1 o2 : Own), callT (X.at g) (den X E) S 104 [.agg [.int .i64 (V.rv a).k, .int .i64 (V.rv a).n, .sl (List.map ic (V.rv a).l) o1, .sl (List.map RV.cells (V.rv a).as) o2]] = some (.bool true, S) := by
      intros
      simpa using call_up (cf := X.at _) (fn := Tryz.f104) (args' := [_]) (by kernel_rfl) (by simp) (by simp; try rfl) (by simpa using ih1 hn1) _
    have c2 : ∀ (g : Nat) (S : St) (o1 o2 : Own), callT (X.at g) (den X E) S 104 [.agg [.int .i64 (V.rv b).k, .int .i64 (V.rv b).n, .sl (List.map ic (V.rv b).l) o1, .sl (List.map RV.cells (V.rv b).as) o2]] = some (.bool true, S) := by
      intros
      simpa using call_up (cf := X.at _) (fn := Tryz.f104) (args' := [_]) (by kernel_rfl) (by simp) (by simp; try rfl) (by simpa using ih2 hn2) _
    simp only [V.rv_pair]
    refine den_w0 (fn := Tryz.f104) (by rfl) (by rfl) (by kernel_rfl) rfl (by rfl) ?_
    simp -implicitDefEqProofs
    (repeat (first | refine Wp.seq ?_ | refine Wp.block ?_ | refine Wp.skip ?_ | refine Wp.exit ?_ | refine Wp.ret ?_ | refine thenK_n ?_ | refine thenK_r ?_ | refine thenK_e ?_ | refine blockK_n ?_ | refine blockK_r ?_ | refine blockK_e ?_ | refine blockK_o (by decide) ?_ | (refine Wp.condT ?_ ?_; focus (simp -implicitDefEqProofs [c1, c2] <;> fail)) | (refine Wp.condF ?_ ?_; focus (simp -implicitDefEqProofs [c1, c2] <;> fail)) | refine Wp.reg (by simp -implicitDefEqProofs [c1, c2]; exact ⟨rfl, rfl⟩) ?_ | refine Wp.regA (by simp -implicitDefEqProofs [c1, c2]; exact ⟨rfl, rfl⟩) (by rfl) ?_))
    (apply endK_r; (focus (simp -implicitDefEqProofs [Tryz.f104]; try rfl)); (focus (intro g; simp -implicitDefEqProofs [Tryz.f104])); exact ⟨_, rfl⟩)
theorem shape5_c {s : Ty} {v : V} (h : VD s v) (hn : VN 1000000000 v) (g : Nat) (S : St) (o1 o2 : Own) : callT (X.at g) (den X E) S 104 [.agg [.int .i64 (V.rv v).k, .int .i64 (V.rv v).n, .sl (List.map ic (V.rv v).l) o1, .sl (List.map RV.cells (V.rv v).as) o2]] = some (.bool true, S) := by
  simpa using call_up (cf := X.at g) (fn := Tryz.f104) (args' := [.agg [.int .i64 (V.rv v).k, .int .i64 (V.rv v).n, .sl (List.map ic (V.rv v).l) o1, .sl (List.map RV.cells (V.rv v).as) o2]]) (by kernel_rfl) (by simp) (by simp; try rfl) (by simpa using shape5 (E := E) h hn) S
theorem nodes5 {s : Ty} {v : V} (h : VD s v) (hs : s.size ≤ 1000000) : den X E 105 [(V.rv v).enc] [] = some (.int .i64 s.size, []) := by
  induction h with
  | num n =>
    simp only [V.rv_num, Ty.size]
    refine den_w0 (fn := Tryz.f105) (by rfl) (by rfl) (by kernel_rfl) rfl (by rfl) ?_
    simp -implicitDefEqProofs
    (repeat (first | refine Wp.seq ?_ | refine Wp.block ?_ | refine Wp.skip ?_ | refine Wp.exit ?_ | refine Wp.ret ?_ | refine thenK_n ?_ | refine thenK_r ?_ | refine thenK_e ?_ | refine blockK_n ?_ | refine blockK_r ?_ | refine blockK_e ?_ | refine blockK_o (by decide) ?_ | (refine Wp.condT ?_ ?_; focus (simp -implicitDefEqProofs <;> fail)) | (refine Wp.condF ?_ ?_; focus (simp -implicitDefEqProofs <;> fail)) | refine Wp.reg (by simp -implicitDefEqProofs; exact ⟨rfl, rfl⟩) ?_ | refine Wp.regA (by simp -implicitDefEqProofs; exact ⟨rfl, rfl⟩) (by rfl) ?_ | refine Wp.unroll ?_))
    (apply endK_r; (focus (simp -implicitDefEqProofs [Tryz.f105]; try rfl)); (focus (intro g; simp -implicitDefEqProofs [Tryz.f105])); exact ⟨_, rfl⟩)
  | unit =>
    simp only [V.rv_unit, Ty.size]
    refine den_w0 (fn := Tryz.f105) (by rfl) (by rfl) (by kernel_rfl) rfl (by rfl) ?_
    simp -implicitDefEqProofs
    (repeat (first | refine Wp.seq ?_ | refine Wp.block ?_ | refine Wp.skip ?_ | refine Wp.exit ?_ | refine Wp.ret ?_ | refine thenK_n ?_ | refine thenK_r ?_ | refine thenK_e ?_ | refine blockK_n ?_ | refine blockK_r ?_ | refine blockK_e ?_ | refine blockK_o (by decide) ?_ | (refine Wp.condT ?_ ?_; focus (simp -implicitDefEqProofs <;> fail)) | (refine Wp.condF ?_ ?_; focus (simp -implicitDefEqProofs <;> fail)) | refine Wp.reg (by simp -implicitDefEqProofs; exact ⟨rfl, rfl⟩) ?_ | refine Wp.regA (by simp -implicitDefEqProofs; exact ⟨rfl, rfl⟩) (by rfl) ?_ | refine Wp.unroll ?_))
    (apply endK_r; (focus (simp -implicitDefEqProofs [Tryz.f105]; try rfl)); (focus (intro g; simp -implicitDefEqProofs [Tryz.f105])); exact ⟨_, rfl⟩)
  | list l =>
    simp only [V.rv_list, Ty.size]
    refine den_w0 (fn := Tryz.f105) (by rfl) (by rfl) (by kernel_rfl) rfl (by rfl) ?_
    simp -implicitDefEqProofs
    (repeat (first | refine Wp.seq ?_ | refine Wp.block ?_ | refine Wp.skip ?_ | refine Wp.exit ?_ | refine Wp.ret ?_ | refine thenK_n ?_ | refine thenK_r ?_ | refine thenK_e ?_ | refine blockK_n ?_ | refine blockK_r ?_ | refine blockK_e ?_ | refine blockK_o (by decide) ?_ | (refine Wp.condT ?_ ?_; focus (simp -implicitDefEqProofs <;> fail)) | (refine Wp.condF ?_ ?_; focus (simp -implicitDefEqProofs <;> fail)) | refine Wp.reg (by simp -implicitDefEqProofs; exact ⟨rfl, rfl⟩) ?_ | refine Wp.regA (by simp -implicitDefEqProofs; exact ⟨rfl, rfl⟩) (by rfl) ?_ | refine Wp.unroll ?_))
    (apply endK_r; (focus (simp -implicitDefEqProofs [Tryz.f105]; try rfl)); (focus (intro g; simp -implicitDefEqProofs [Tryz.f105])); exact ⟨_, rfl⟩)
  | @pair s u a b h1 h2 ih1 ih2 =>
    simp only [Ty.size] at hs
    have c1 : ∀ (g : Nat) (S : St) (o1 o2 : Own), callT (X.at g) (den X E) S 105 [.agg [.int .i64 (V.rv a).k, .int .i64 (V.rv a).n, .sl (List.map ic (V.rv a).l) o1, .sl (List.map RV.cells (V.rv a).as) o2]] = some (.int .i64 s.size, S) := by
      intros
      simpa using call_up (cf := X.at _) (fn := Tryz.f105) (args' := [_]) (by kernel_rfl) (by simp) (by simp; try rfl) (by simpa using ih1 (by omega)) _
    have c2 : ∀ (g : Nat) (S : St) (o1 o2 : Own), callT (X.at g) (den X E) S 105 [.agg [.int .i64 (V.rv b).k, .int .i64 (V.rv b).n, .sl (List.map ic (V.rv b).l) o1, .sl (List.map RV.cells (V.rv b).as) o2]] = some (.int .i64 u.size, S) := by
      intros
      simpa using call_up (cf := X.at _) (fn := Tryz.f105) (args' := [_]) (by kernel_rfl) (by simp) (by simp; try rfl) (by simpa using ih2 (by omega)) _
    have hw1 : IntKind.i64.wrap 1 = 1 := by decide
    have hw2 : IntKind.i64.wrap 2 = 2 := by decide
    have hw3 : IntKind.i64.wrap ((1 : Int) + s.size) = 1 + s.size := IntWalk.i64_in _ (by omega)
    have hw4 : IntKind.i64.wrap ((1 : Int) + s.size + u.size) = 1 + s.size + u.size := IntWalk.i64_in _ (by omega)
    simp only [V.rv_pair, Ty.size]
    refine den_w0 (fn := Tryz.f105) (by rfl) (by rfl) (by kernel_rfl) rfl (by rfl) ?_
    simp -implicitDefEqProofs
    (repeat (first | refine Wp.seq ?_ | refine Wp.block ?_ | refine Wp.skip ?_ | refine Wp.exit ?_ | refine Wp.ret ?_ | refine thenK_n ?_ | refine thenK_r ?_ | refine thenK_e ?_ | refine blockK_n ?_ | refine blockK_r ?_ | refine blockK_e ?_ | refine blockK_o (by decide) ?_ | (refine Wp.condT ?_ ?_; focus (simp -implicitDefEqProofs [c1, c2, hw1, hw2, hw3, hw4] <;> fail)) | (refine Wp.condF ?_ ?_; focus (simp -implicitDefEqProofs [c1, c2, hw1, hw2, hw3, hw4] <;> fail)) | refine Wp.reg (by simp -implicitDefEqProofs [c1, c2, hw1, hw2, hw3, hw4]; exact ⟨rfl, rfl⟩) ?_ | refine Wp.regA (by simp -implicitDefEqProofs [c1, c2, hw1, hw2, hw3, hw4]; exact ⟨rfl, rfl⟩) (by rfl) ?_ | refine Wp.unroll ?_))
    (apply endK_r; (focus (simp -implicitDefEqProofs [Tryz.f105]; try rfl)); (focus (intro g; simp -implicitDefEqProofs [Tryz.f105]; omega)); exact ⟨_, rfl⟩)
theorem nodes5_c {s : Ty} {v : V} (h : VD s v) (hs : s.size ≤ 1000000) (g : Nat) (S : St) (o1 o2 : Own) : callT (X.at g) (den X E) S 105 [.agg [.int .i64 (V.rv v).k, .int .i64 (V.rv v).n, .sl (List.map ic (V.rv v).l) o1, .sl (List.map RV.cells (V.rv v).as) o2]] = some (.int .i64 s.size, S) := by
  simpa using call_up (cf := X.at g) (fn := Tryz.f105) (args' := [.agg [.int .i64 (V.rv v).k, .int .i64 (V.rv v).n, .sl (List.map ic (V.rv v).l) o1, .sl (List.map RV.cells (V.rv v).as) o2]]) (by kernel_rfl) (by simp) (by simp; try rfl) (by simpa using nodes5 (E := E) h hs) S
theorem check5 {s : Ty} {v : V} (h : VD s v) (hn : VN 1000000000 v) (hs : s.size ≤ 64) : den X E 72 [(V.rv v).enc] [] = some (.int .i64 0, []) := by
  have c1 := shape5_c (E := E) h hn
  have c2 := nodes5_c (E := E) h (by omega)
  have h64 : ¬ (64 : Int) < s.size := by omega
  refine den_w0 (fn := Tryz.f72) (by rfl) (by rfl) (by kernel_rfl) rfl (by rfl) ?_
  simp -implicitDefEqProofs
  (repeat (first | refine Wp.seq ?_ | refine Wp.block ?_ | refine Wp.skip ?_ | refine Wp.exit ?_ | refine Wp.ret ?_ | refine thenK_n ?_ | refine thenK_r ?_ | refine thenK_e ?_ | refine blockK_n ?_ | refine blockK_r ?_ | refine blockK_e ?_ | refine blockK_o (by decide) ?_ | (refine Wp.condT ?_ ?_; focus (simp -implicitDefEqProofs [c1, c2, h64] <;> fail)) | (refine Wp.condF ?_ ?_; focus (simp -implicitDefEqProofs [c1, c2, h64] <;> fail)) | refine Wp.reg (by simp -implicitDefEqProofs [c1, c2, h64]; exact ⟨rfl, rfl⟩) ?_ | refine Wp.regA (by simp -implicitDefEqProofs [c1, c2, h64]; exact ⟨rfl, rfl⟩) (by rfl) ?_))
  (apply endK_r; (focus (simp -implicitDefEqProofs [Tryz.f72]; try rfl)); (focus (intro g; simp -implicitDefEqProofs [Tryz.f72])); exact ⟨_, rfl⟩)
theorem check5_c {s : Ty} {v : V} (h : VD s v) (hn : VN 1000000000 v) (hs : s.size ≤ 64) (g : Nat) (S : St) (o1 o2 : Own) : callT (X.at g) (den X E) S 72 [.agg [.int .i64 (V.rv v).k, .int .i64 (V.rv v).n, .sl (List.map ic (V.rv v).l) o1, .sl (List.map RV.cells (V.rv v).as) o2]] = some (.int .i64 0, S) := by
  simpa using call_up (cf := X.at g) (fn := Tryz.f72) (args' := [.agg [.int .i64 (V.rv v).k, .int .i64 (V.rv v).n, .sl (List.map ic (V.rv v).l) o1, .sl (List.map RV.cells (V.rv v).as) o2]]) (by kernel_rfl) (by simp) (by simp; try rfl) (by simpa using check5 (E := E) h hn hs) S
theorem typed5 {s : Ty} {v : V} (h : VD s v) (hs : s.size ≤ 1000000) : den X E 101 [(V.rv v).enc] [] = some (s.raw.enc, []) := by
  induction h with
  | num n =>
    simp only [V.rv_num, Ty.raw]
    refine den_w0 (fn := Tryz.f101) (by rfl) (by rfl) (by kernel_rfl) rfl (by rfl) ?_
    simp -implicitDefEqProofs
    (repeat (first | refine Wp.seq ?_ | refine Wp.block ?_ | refine Wp.skip ?_ | refine Wp.exit ?_ | refine Wp.ret ?_ | refine thenK_n ?_ | refine thenK_r ?_ | refine thenK_e ?_ | refine blockK_n ?_ | refine blockK_r ?_ | refine blockK_e ?_ | refine blockK_o (by decide) ?_ | (refine Wp.condT ?_ ?_; focus (simp -implicitDefEqProofs [nat1_c, list1_c, unit1_c] <;> fail)) | (refine Wp.condF ?_ ?_; focus (simp -implicitDefEqProofs [nat1_c, list1_c, unit1_c] <;> fail)) | refine Wp.reg (by simp -implicitDefEqProofs [nat1_c, list1_c, unit1_c]; exact ⟨rfl, rfl⟩) ?_ | refine Wp.regA (by simp -implicitDefEqProofs [nat1_c, list1_c, unit1_c]; exact ⟨rfl, rfl⟩) (by rfl) ?_))
    (apply endK_r; (focus (simp -implicitDefEqProofs [Tryz.f101]; try rfl)); (focus (intro g; simp -implicitDefEqProofs [Tryz.f101])); exact ⟨_, rfl⟩)
  | unit =>
    simp only [V.rv_unit, Ty.raw]
    refine den_w0 (fn := Tryz.f101) (by rfl) (by rfl) (by kernel_rfl) rfl (by rfl) ?_
    simp -implicitDefEqProofs
    (repeat (first | refine Wp.seq ?_ | refine Wp.block ?_ | refine Wp.skip ?_ | refine Wp.exit ?_ | refine Wp.ret ?_ | refine thenK_n ?_ | refine thenK_r ?_ | refine thenK_e ?_ | refine blockK_n ?_ | refine blockK_r ?_ | refine blockK_e ?_ | refine blockK_o (by decide) ?_ | (refine Wp.condT ?_ ?_; focus (simp -implicitDefEqProofs [nat1_c, list1_c, unit1_c] <;> fail)) | (refine Wp.condF ?_ ?_; focus (simp -implicitDefEqProofs [nat1_c, list1_c, unit1_c] <;> fail)) | refine Wp.reg (by simp -implicitDefEqProofs [nat1_c, list1_c, unit1_c]; exact ⟨rfl, rfl⟩) ?_ | refine Wp.regA (by simp -implicitDefEqProofs [nat1_c, list1_c, unit1_c]; exact ⟨rfl, rfl⟩) (by rfl) ?_))
    (apply endK_r; (focus (simp -implicitDefEqProofs [Tryz.f101]; try rfl)); (focus (intro g; simp -implicitDefEqProofs [Tryz.f101])); exact ⟨_, rfl⟩)
  | list l =>
    simp only [V.rv_list, Ty.raw]
    refine den_w0 (fn := Tryz.f101) (by rfl) (by rfl) (by kernel_rfl) rfl (by rfl) ?_
    simp -implicitDefEqProofs
    (repeat (first | refine Wp.seq ?_ | refine Wp.block ?_ | refine Wp.skip ?_ | refine Wp.exit ?_ | refine Wp.ret ?_ | refine thenK_n ?_ | refine thenK_r ?_ | refine thenK_e ?_ | refine blockK_n ?_ | refine blockK_r ?_ | refine blockK_e ?_ | refine blockK_o (by decide) ?_ | (refine Wp.condT ?_ ?_; focus (simp -implicitDefEqProofs [nat1_c, list1_c, unit1_c] <;> fail)) | (refine Wp.condF ?_ ?_; focus (simp -implicitDefEqProofs [nat1_c, list1_c, unit1_c] <;> fail)) | refine Wp.reg (by simp -implicitDefEqProofs [nat1_c, list1_c, unit1_c]; exact ⟨rfl, rfl⟩) ?_ | refine Wp.regA (by simp -implicitDefEqProofs [nat1_c, list1_c, unit1_c]; exact ⟨rfl, rfl⟩) (by rfl) ?_))
    (apply endK_r; (focus (simp -implicitDefEqProofs [Tryz.f101]; try rfl)); (focus (intro g; simp -implicitDefEqProofs [Tryz.f101])); exact ⟨_, rfl⟩)
  | @pair s u a b h1 h2 ih1 ih2 =>
    simp only [Ty.size] at hs
    have c1 : ∀ (g : Nat) (S : St) (o1 o2 : Own), callT (X.at g) (den X E) S 101 [.agg [.int .i64 (V.rv a).k, .int .i64 (V.rv a).n, .sl (List.map ic (V.rv a).l) o1, .sl (List.map RV.cells (V.rv a).as) o2]] = some (.agg [.int .i64 s.raw.k, .sl (List.map RT.cells s.raw.as) .dead], S) := by
      intros
      simpa using call_up (cf := X.at _) (fn := Tryz.f101) (args' := [_]) (by kernel_rfl) (by simp) (by simp; try rfl) (by simpa using ih1 (by omega)) _
    have c2 : ∀ (g : Nat) (S : St) (o1 o2 : Own), callT (X.at g) (den X E) S 101 [.agg [.int .i64 (V.rv b).k, .int .i64 (V.rv b).n, .sl (List.map ic (V.rv b).l) o1, .sl (List.map RV.cells (V.rv b).as) o2]] = some (.agg [.int .i64 u.raw.k, .sl (List.map RT.cells u.raw.as) .dead], S) := by
      intros
      simpa using call_up (cf := X.at _) (fn := Tryz.f101) (args' := [_]) (by kernel_rfl) (by simp) (by simp; try rfl) (by simpa using ih2 (by omega)) _
    have c3 := two1_c (E := E) (k := s.raw.k) (ts := s.raw.as) (m := u.raw.k) (us := u.raw.as) (by simp [Ty.raw_nodes]; omega) (by simp [Ty.raw_nodes]; omega)
    simp at c3
    simp only [V.rv_pair, Ty.raw]
    refine den_w0 (fn := Tryz.f101) (by rfl) (by rfl) (by kernel_rfl) rfl (by rfl) ?_
    simp -implicitDefEqProofs
    (repeat (first | refine Wp.seq ?_ | refine Wp.block ?_ | refine Wp.skip ?_ | refine Wp.exit ?_ | refine Wp.ret ?_ | refine thenK_n ?_ | refine thenK_r ?_ | refine thenK_e ?_ | refine blockK_n ?_ | refine blockK_r ?_ | refine blockK_e ?_ | refine blockK_o (by decide) ?_ | (refine Wp.condT ?_ ?_; focus (simp -implicitDefEqProofs [c1, c2, c3] <;> fail)) | (refine Wp.condF ?_ ?_; focus (simp -implicitDefEqProofs [c1, c2, c3] <;> fail)) | refine Wp.reg (by simp -implicitDefEqProofs [c1, c2, c3]; exact ⟨rfl, rfl⟩) ?_ | refine Wp.regA (by simp -implicitDefEqProofs [c1, c2, c3]; exact ⟨rfl, rfl⟩) (by rfl) ?_))
    (apply endK_r; (focus (simp -implicitDefEqProofs [Tryz.f101]; try rfl)); (focus (intro g; simp -implicitDefEqProofs [Tryz.f101])); exact ⟨_, rfl⟩)
theorem typed5_c {s : Ty} {v : V} (h : VD s v) (hs : s.size ≤ 1000000) (g : Nat) (S : St) (o1 o2 : Own) : callT (X.at g) (den X E) S 101 [.agg [.int .i64 (V.rv v).k, .int .i64 (V.rv v).n, .sl (List.map ic (V.rv v).l) o1, .sl (List.map RV.cells (V.rv v).as) o2]] = some (.agg [.int .i64 s.raw.k, .sl (List.map RT.cells s.raw.as) .dead], S) := by
  simpa using call_up (cf := X.at g) (fn := Tryz.f101) (args' := [.agg [.int .i64 (V.rv v).k, .int .i64 (V.rv v).n, .sl (List.map ic (V.rv v).l) o1, .sl (List.map RV.cells (V.rv v).as) o2]]) (by kernel_rfl) (by simp) (by simp; try rfl) (by simpa using typed5 (E := E) h hs) S
theorem typeOf5 {s : Ty} {v : V} (h : VD s v) (hn : VN 1000000000 v) (hs : s.size ≤ 64) : den X E 63 [(V.rv v).enc] [] = some (.tup [s.raw.enc, .int .i64 0], []) := by
  have c1 := check5_c (E := E) h hn hs
  have c2 := typed5_c (E := E) h (by omega)
  refine den_w0 (fn := Tryz.f63) (by rfl) (by rfl) (by kernel_rfl) rfl (by rfl) ?_
  simp -implicitDefEqProofs
  (repeat (first | refine Wp.seq ?_ | refine Wp.block ?_ | refine Wp.skip ?_ | refine Wp.exit ?_ | refine Wp.ret ?_ | refine thenK_n ?_ | refine thenK_r ?_ | refine thenK_e ?_ | refine blockK_n ?_ | refine blockK_r ?_ | refine blockK_e ?_ | refine blockK_o (by decide) ?_ | (refine Wp.condT ?_ ?_; focus (simp -implicitDefEqProofs [c1, c2] <;> fail)) | (refine Wp.condF ?_ ?_; focus (simp -implicitDefEqProofs [c1, c2] <;> fail)) | refine Wp.reg (by simp -implicitDefEqProofs [c1, c2]; exact ⟨rfl, rfl⟩) ?_ | refine Wp.regA (by simp -implicitDefEqProofs [c1, c2]; exact ⟨rfl, rfl⟩) (by rfl) ?_))
  (apply endK_r; (focus (simp -implicitDefEqProofs [Tryz.f63]; try rfl)); (focus (intro g; simp -implicitDefEqProofs [Tryz.f63])); exact ⟨_, rfl⟩)
theorem typeOf5_c {s : Ty} {v : V} (h : VD s v) (hn : VN 1000000000 v) (hs : s.size ≤ 64) (g : Nat) (S : St) (o1 o2 : Own) : callT (X.at g) (den X E) S 63 [.agg [.int .i64 (V.rv v).k, .int .i64 (V.rv v).n, .sl (List.map ic (V.rv v).l) o1, .sl (List.map RV.cells (V.rv v).as) o2]] = some (.tup [.agg [.int .i64 s.raw.k, .sl (List.map RT.cells s.raw.as) .dead], .int .i64 0], S) := by
  simpa using call_up (cf := X.at g) (fn := Tryz.f63) (args' := [.agg [.int .i64 (V.rv v).k, .int .i64 (V.rv v).n, .sl (List.map ic (V.rv v).l) o1, .sl (List.map RV.cells (V.rv v).as) o2]]) (by kernel_rfl) (by simp) (by simp; try rfl) (by simpa using typeOf5 (E := E) h hn hs) S
end M
end Go.Proofs.YthclcchnodjjpaaGreatDoor
/- ref06: of, plain, on plain values; ref01: level, Data. -/
set_option linter.unusedVariables false
set_option linter.unusedSimpArgs false
set_option maxRecDepth 10000
set_option maxHeartbeats 4000000
namespace Go.Proofs.YthclcchnodjjpaaGreatDoor
namespace M
attribute [local irreducible] Wp thenK blockK endK
variable {E : Oracle}
open T (V Ty Tm noTy VT VB)
attribute [local simp] noTy
theorem of6 {s : Ty} {v : V} (h : VD s v) : den X E 67 [(V.rv v).enc] [] = some ((V.rx v).enc, []) := by
  induction h with
  | num n =>
    simp only [V.rv_num, V.rx_num]
    refine den_w0 (fn := Tryz.f67) (by rfl) (by rfl) (by kernel_rfl) rfl (by rfl) ?_
    simp -implicitDefEqProofs
    (repeat (first | refine Wp.seq ?_ | refine Wp.block ?_ | refine Wp.skip ?_ | refine Wp.exit ?_ | refine Wp.ret ?_ | refine thenK_n ?_ | refine thenK_r ?_ | refine thenK_e ?_ | refine blockK_n ?_ | refine blockK_r ?_ | refine blockK_e ?_ | refine blockK_o (by decide) ?_ | (refine Wp.condT ?_ ?_; focus (simp -implicitDefEqProofs <;> fail)) | (refine Wp.condF ?_ ?_; focus (simp -implicitDefEqProofs <;> fail)) | refine Wp.reg (by simp -implicitDefEqProofs; exact ⟨rfl, rfl⟩) ?_ | refine Wp.regA (by simp -implicitDefEqProofs; exact ⟨rfl, rfl⟩) (by rfl) ?_ | refine Wp.unroll ?_))
    (apply endK_r; (focus (simp -implicitDefEqProofs [Tryz.f67]; try rfl)); (focus (intro g; simp -implicitDefEqProofs [Tryz.f67])); exact ⟨_, rfl⟩)
  | unit =>
    simp only [V.rv_unit, V.rx_unit]
    refine den_w0 (fn := Tryz.f67) (by rfl) (by rfl) (by kernel_rfl) rfl (by rfl) ?_
    simp -implicitDefEqProofs
    (repeat (first | refine Wp.seq ?_ | refine Wp.block ?_ | refine Wp.skip ?_ | refine Wp.exit ?_ | refine Wp.ret ?_ | refine thenK_n ?_ | refine thenK_r ?_ | refine thenK_e ?_ | refine blockK_n ?_ | refine blockK_r ?_ | refine blockK_e ?_ | refine blockK_o (by decide) ?_ | (refine Wp.condT ?_ ?_; focus (simp -implicitDefEqProofs <;> fail)) | (refine Wp.condF ?_ ?_; focus (simp -implicitDefEqProofs <;> fail)) | refine Wp.reg (by simp -implicitDefEqProofs; exact ⟨rfl, rfl⟩) ?_ | refine Wp.regA (by simp -implicitDefEqProofs; exact ⟨rfl, rfl⟩) (by rfl) ?_ | refine Wp.unroll ?_))
    (apply endK_r; (focus (simp -implicitDefEqProofs [Tryz.f67]; try rfl)); (focus (intro g; simp -implicitDefEqProofs [Tryz.f67])); exact ⟨_, rfl⟩)
  | list l =>
    simp only [V.rv_list, V.rx_list]
    refine den_w0 (fn := Tryz.f67) (by rfl) (by rfl) (by kernel_rfl) rfl (by rfl) ?_
    simp -implicitDefEqProofs
    (repeat (first | refine Wp.seq ?_ | refine Wp.block ?_ | refine Wp.skip ?_ | refine Wp.exit ?_ | refine Wp.ret ?_ | refine thenK_n ?_ | refine thenK_r ?_ | refine thenK_e ?_ | refine blockK_n ?_ | refine blockK_r ?_ | refine blockK_e ?_ | refine blockK_o (by decide) ?_ | (refine Wp.condT ?_ ?_; focus (simp -implicitDefEqProofs <;> fail)) | (refine Wp.condF ?_ ?_; focus (simp -implicitDefEqProofs <;> fail)) | refine Wp.reg (by simp -implicitDefEqProofs; exact ⟨rfl, rfl⟩) ?_ | refine Wp.regA (by simp -implicitDefEqProofs; exact ⟨rfl, rfl⟩) (by rfl) ?_ | refine Wp.unroll ?_))
    (apply endK_r; (focus (simp -implicitDefEqProofs [Tryz.f67]; try rfl)); (focus (intro g; simp -implicitDefEqProofs [Tryz.f67])); exact ⟨_, rfl⟩)
  | @pair s u a b h1 h2 ih1 ih2 =>
    have c1 : ∀ (g : Nat) (S : St) (o1 o2 : Own), callT (X.at g) (den X E) S 67 [.agg [.int .i64 (V.rv a).k, .int .i64 (V.rv a).n, .sl (List.map ic (V.rv a).l) o1, .sl (List.map RV.cells (V.rv a).as) o2]] = some (.agg [.int .i64 (V.rx a).n, .sl (List.map ic (V.rx a).l) .dead, .sl (List.map RX.cells (V.rx a).p) .dead, .int .i64 (V.rx a).b.k, .int .i64 (V.rx a).b.i, .int .i64 (V.rx a).b.ty.k, .sl (List.map RT.cells (V.rx a).b.ty.as) .dead, .sl (List.map RM.cells (V.rx a).b.as) .dead, .sl (List.map RX.cells (V.rx a).e) .dead], S) := by
      intros
      simpa using call_up (cf := X.at _) (fn := Tryz.f67) (args' := [_]) (by kernel_rfl) (by simp) (by simp; try rfl) (by simpa using ih1) _
    have c2 : ∀ (g : Nat) (S : St) (o1 o2 : Own), callT (X.at g) (den X E) S 67 [.agg [.int .i64 (V.rv b).k, .int .i64 (V.rv b).n, .sl (List.map ic (V.rv b).l) o1, .sl (List.map RV.cells (V.rv b).as) o2]] = some (.agg [.int .i64 (V.rx b).n, .sl (List.map ic (V.rx b).l) .dead, .sl (List.map RX.cells (V.rx b).p) .dead, .int .i64 (V.rx b).b.k, .int .i64 (V.rx b).b.i, .int .i64 (V.rx b).b.ty.k, .sl (List.map RT.cells (V.rx b).b.ty.as) .dead, .sl (List.map RM.cells (V.rx b).b.as) .dead, .sl (List.map RX.cells (V.rx b).e) .dead], S) := by
      intros
      simpa using call_up (cf := X.at _) (fn := Tryz.f67) (args' := [_]) (by kernel_rfl) (by simp) (by simp; try rfl) (by simpa using ih2) _
    have hw1 : IntKind.i64.wrap 1 = 1 := by decide
    have hw2 : IntKind.i64.wrap 2 = 2 := by decide
    simp only [V.rv_pair, V.rx_pair]
    refine den_w0 (fn := Tryz.f67) (by rfl) (by rfl) (by kernel_rfl) rfl (by rfl) ?_
    simp -implicitDefEqProofs
    (repeat (first | refine Wp.seq ?_ | refine Wp.block ?_ | refine Wp.skip ?_ | refine Wp.exit ?_ | refine Wp.ret ?_ | refine thenK_n ?_ | refine thenK_r ?_ | refine thenK_e ?_ | refine blockK_n ?_ | refine blockK_r ?_ | refine blockK_e ?_ | refine blockK_o (by decide) ?_ | (refine Wp.condT ?_ ?_; focus (simp -implicitDefEqProofs [c1, c2, hw1, hw2] <;> fail)) | (refine Wp.condF ?_ ?_; focus (simp -implicitDefEqProofs [c1, c2, hw1, hw2] <;> fail)) | refine Wp.reg (by simp -implicitDefEqProofs [c1, c2, hw1, hw2]; exact ⟨rfl, rfl⟩) ?_ | refine Wp.regA (by simp -implicitDefEqProofs [c1, c2, hw1, hw2]; exact ⟨rfl, rfl⟩) (by rfl) ?_ | refine Wp.unroll ?_))
    (apply endK_r; (focus (simp -implicitDefEqProofs [Tryz.f67]; try rfl)); (focus (intro g; simp -implicitDefEqProofs [Tryz.f67])); exact ⟨_, rfl⟩)
theorem of6_c {s : Ty} {v : V} (h : VD s v) (g : Nat) (S : St) (o1 o2 : Own) : callT (X.at g) (den X E) S 67 [.agg [.int .i64 (V.rv v).k, .int .i64 (V.rv v).n, .sl (List.map ic (V.rv v).l) o1, .sl (List.map RV.cells (V.rv v).as) o2]] = some (.agg [.int .i64 (V.rx v).n, .sl (List.map ic (V.rx v).l) .dead, .sl (List.map RX.cells (V.rx v).p) .dead, .int .i64 (V.rx v).b.k, .int .i64 (V.rx v).b.i, .int .i64 (V.rx v).b.ty.k, .sl (List.map RT.cells (V.rx v).b.ty.as) .dead, .sl (List.map RM.cells (V.rx v).b.as) .dead, .sl (List.map RX.cells (V.rx v).e) .dead], S) := by
  simpa using call_up (cf := X.at g) (fn := Tryz.f67) (args' := [.agg [.int .i64 (V.rv v).k, .int .i64 (V.rv v).n, .sl (List.map ic (V.rv v).l) o1, .sl (List.map RV.cells (V.rv v).as) o2]]) (by kernel_rfl) (by simp) (by simp; try rfl) (by simpa using of6 (E := E) h) S
theorem plain6 {s : Ty} {v : V} (h : VD s v) (hn : VN 1000000000 v) : den X E 68 [(V.rx v).enc, s.raw.enc] [] = some ((V.rv v).enc, []) := by
  induction h with
  | num n =>
    simp only [V.rv_num, V.rx_num, Ty.raw]
    refine den_w0 (fn := Tryz.f68) (by rfl) (by rfl) (by kernel_rfl) rfl (by rfl) ?_
    simp -implicitDefEqProofs
    (repeat (first | refine Wp.seq ?_ | refine Wp.block ?_ | refine Wp.skip ?_ | refine Wp.exit ?_ | refine Wp.ret ?_ | refine thenK_n ?_ | refine thenK_r ?_ | refine thenK_e ?_ | refine blockK_n ?_ | refine blockK_r ?_ | refine blockK_e ?_ | refine blockK_o (by decide) ?_ | (refine Wp.condT ?_ ?_; focus (simp -implicitDefEqProofs <;> fail)) | (refine Wp.condF ?_ ?_; focus (simp -implicitDefEqProofs <;> fail)) | refine Wp.reg (by simp -implicitDefEqProofs; exact ⟨rfl, rfl⟩) ?_ | refine Wp.regA (by simp -implicitDefEqProofs; exact ⟨rfl, rfl⟩) (by rfl) ?_))
    (apply endK_r; (focus (simp -implicitDefEqProofs [Tryz.f68]; try rfl)); (focus (intro g; simp -implicitDefEqProofs [Tryz.f68])); exact ⟨_, rfl⟩)
  | unit =>
    simp only [V.rv_unit, V.rx_unit, Ty.raw]
    refine den_w0 (fn := Tryz.f68) (by rfl) (by rfl) (by kernel_rfl) rfl (by rfl) ?_
    simp -implicitDefEqProofs
    (repeat (first | refine Wp.seq ?_ | refine Wp.block ?_ | refine Wp.skip ?_ | refine Wp.exit ?_ | refine Wp.ret ?_ | refine thenK_n ?_ | refine thenK_r ?_ | refine thenK_e ?_ | refine blockK_n ?_ | refine blockK_r ?_ | refine blockK_e ?_ | refine blockK_o (by decide) ?_ | (refine Wp.condT ?_ ?_; focus (simp -implicitDefEqProofs <;> fail)) | (refine Wp.condF ?_ ?_; focus (simp -implicitDefEqProofs <;> fail)) | refine Wp.reg (by simp -implicitDefEqProofs; exact ⟨rfl, rfl⟩) ?_ | refine Wp.regA (by simp -implicitDefEqProofs; exact ⟨rfl, rfl⟩) (by rfl) ?_))
    (apply endK_r; (focus (simp -implicitDefEqProofs [Tryz.f68]; try rfl)); (focus (intro g; simp -implicitDefEqProofs [Tryz.f68])); exact ⟨_, rfl⟩)
  | list l =>
    cases hn with
    | list hl hx =>
    obtain ⟨o1, tk1, a1, k1⟩ := can_apps (tk := []) (es := []) (o := .full) trivial (l.map (ic ∘ Int.ofNat)) 1 (by decide) (by simp) (by simp) (by simp; omega)
    simp only [List.nil_append] at a1
    simp only [V.rv_list, V.rx_list, Ty.raw]
    refine den_w0 (fn := Tryz.f68) (by rfl) (by rfl) (by kernel_rfl) rfl (by rfl) ?_
    simp -implicitDefEqProofs
    (repeat (first | refine Wp.seq ?_ | refine Wp.block ?_ | refine Wp.skip ?_ | refine Wp.exit ?_ | refine Wp.ret ?_ | refine thenK_n ?_ | refine thenK_r ?_ | refine thenK_e ?_ | refine blockK_n ?_ | refine blockK_r ?_ | refine blockK_e ?_ | refine blockK_o (by decide) ?_ | (refine Wp.condT ?_ ?_; focus (simp -implicitDefEqProofs [a1, -append_full] <;> fail)) | (refine Wp.condF ?_ ?_; focus (simp -implicitDefEqProofs [a1, -append_full] <;> fail)) | refine Wp.reg (by simp -implicitDefEqProofs [a1, -append_full]; exact ⟨rfl, rfl⟩) ?_ | refine Wp.regA (by simp -implicitDefEqProofs [a1, -append_full]; exact ⟨rfl, rfl⟩) (by rfl) ?_))
    (apply endK_r; (focus (simp -implicitDefEqProofs [Tryz.f68]; try rfl)); (focus (intro g; simp -implicitDefEqProofs [Tryz.f68])); exact ⟨_, rfl⟩)
  | @pair s u a b h1 h2 ih1 ih2 =>
    cases hn with
    | pair hn1 hn2 =>
    have c1 : ∀ (g : Nat) (S : St) (o1 o2 o3 o4 o5 o6 : Own), callT (X.at g) (den X E) S 68 [.agg [.int .i64 (V.rx a).n, .sl (List.map ic (V.rx a).l) o1, .sl (List.map RX.cells (V.rx a).p) o2, .int .i64 (V.rx a).b.k, .int .i64 (V.rx a).b.i, .int .i64 (V.rx a).b.ty.k, .sl (List.map RT.cells (V.rx a).b.ty.as) o3, .sl (List.map RM.cells (V.rx a).b.as) o4, .sl (List.map RX.cells (V.rx a).e) o5], .agg [.int .i64 s.raw.k, .sl (List.map RT.cells s.raw.as) o6]] = some (.agg [.int .i64 (V.rv a).k, .int .i64 (V.rv a).n, .sl (List.map ic (V.rv a).l) .dead, .sl (List.map RV.cells (V.rv a).as) .dead], S) := by
      intros
      simpa using call_up (cf := X.at _) (fn := Tryz.f68) (args' := [_, _]) (by kernel_rfl) (by simp) (by simp; try rfl) (by simpa using ih1 hn1) _
    have c2 : ∀ (g : Nat) (S : St) (o1 o2 o3 o4 o5 o6 : Own), callT (X.at g) (den X E) S 68 [.agg [.int .i64 (V.rx b).n, .sl (List.map ic (V.rx b).l) o1, .sl (List.map RX.cells (V.rx b).p) o2, .int .i64 (V.rx b).b.k, .int .i64 (V.rx b).b.i, .int .i64 (V.rx b).b.ty.k, .sl (List.map RT.cells (V.rx b).b.ty.as) o3, .sl (List.map RM.cells (V.rx b).b.as) o4, .sl (List.map RX.cells (V.rx b).e) o5], .agg [.int .i64 u.raw.k, .sl (List.map RT.cells u.raw.as) o6]] = some (.agg [.int .i64 (V.rv b).k, .int .i64 (V.rv b).n, .sl (List.map ic (V.rv b).l) .dead, .sl (List.map RV.cells (V.rv b).as) .dead], S) := by
      intros
      simpa using call_up (cf := X.at _) (fn := Tryz.f68) (args' := [_, _]) (by kernel_rfl) (by simp) (by simp; try rfl) (by simpa using ih2 hn2) _
    simp only [V.rv_pair, V.rx_pair, Ty.raw]
    refine den_w0 (fn := Tryz.f68) (by rfl) (by rfl) (by kernel_rfl) rfl (by rfl) ?_
    simp -implicitDefEqProofs
    (repeat (first | refine Wp.seq ?_ | refine Wp.block ?_ | refine Wp.skip ?_ | refine Wp.exit ?_ | refine Wp.ret ?_ | refine thenK_n ?_ | refine thenK_r ?_ | refine thenK_e ?_ | refine blockK_n ?_ | refine blockK_r ?_ | refine blockK_e ?_ | refine blockK_o (by decide) ?_ | (refine Wp.condT ?_ ?_; focus (simp -implicitDefEqProofs [c1, c2] <;> fail)) | (refine Wp.condF ?_ ?_; focus (simp -implicitDefEqProofs [c1, c2] <;> fail)) | refine Wp.reg (by simp -implicitDefEqProofs [c1, c2]; exact ⟨rfl, rfl⟩) ?_ | refine Wp.regA (by simp -implicitDefEqProofs [c1, c2]; exact ⟨rfl, rfl⟩) (by rfl) ?_))
    (apply endK_r; (focus (simp -implicitDefEqProofs [Tryz.f68]; try rfl)); (focus (intro g; simp -implicitDefEqProofs [Tryz.f68])); exact ⟨_, rfl⟩)
theorem plain6_c {s : Ty} {v : V} (h : VD s v) (hn : VN 1000000000 v) (g : Nat) (S : St) (o1 o2 o3 o4 o5 o6 : Own) : callT (X.at g) (den X E) S 68 [.agg [.int .i64 (V.rx v).n, .sl (List.map ic (V.rx v).l) o1, .sl (List.map RX.cells (V.rx v).p) o2, .int .i64 (V.rx v).b.k, .int .i64 (V.rx v).b.i, .int .i64 (V.rx v).b.ty.k, .sl (List.map RT.cells (V.rx v).b.ty.as) o3, .sl (List.map RM.cells (V.rx v).b.as) o4, .sl (List.map RX.cells (V.rx v).e) o5], .agg [.int .i64 s.raw.k, .sl (List.map RT.cells s.raw.as) o6]] = some (.agg [.int .i64 (V.rv v).k, .int .i64 (V.rv v).n, .sl (List.map ic (V.rv v).l) .dead, .sl (List.map RV.cells (V.rv v).as) .dead], S) := by
  simpa using call_up (cf := X.at g) (fn := Tryz.f68) (args' := [.agg [.int .i64 (V.rx v).n, .sl (List.map ic (V.rx v).l) o1, .sl (List.map RX.cells (V.rx v).p) o2, .int .i64 (V.rx v).b.k, .int .i64 (V.rx v).b.i, .int .i64 (V.rx v).b.ty.k, .sl (List.map RT.cells (V.rx v).b.ty.as) o3, .sl (List.map RM.cells (V.rx v).b.as) o4, .sl (List.map RX.cells (V.rx v).e) o5], .agg [.int .i64 s.raw.k, .sl (List.map RT.cells s.raw.as) o6]]) (by kernel_rfl) (by simp) (by simp; try rfl) (by simpa using plain6 (E := E) h hn) S
theorem rlevel1 (s : Ty) (hs : s.size ≤ 1000000000) : den X E 102 [s.raw.enc] [] = some (.int .i64 s.level, []) := by
  induction s with
  | pair a b ih1 ih2 =>
    simp only [Ty.size] at hs
    have c1 : ∀ (g : Nat) (S : St) (o1 : Own), callT (X.at g) (den X E) S 102 [.agg [.int .i64 a.raw.k, .sl (List.map RT.cells a.raw.as) o1]] = some (.int .i64 a.level, S) := by
      intros
      simpa using call_up (cf := X.at _) (fn := Tryz.f102) (args' := [_]) (by kernel_rfl) (by simp) (by simp; try rfl) (by simpa using ih1 (by omega)) _
    have c2 : ∀ (g : Nat) (S : St) (o1 : Own), callT (X.at g) (den X E) S 102 [.agg [.int .i64 b.raw.k, .sl (List.map RT.cells b.raw.as) o1]] = some (.int .i64 b.level, S) := by
      intros
      simpa using call_up (cf := X.at _) (fn := Tryz.f102) (args' := [_]) (by kernel_rfl) (by simp) (by simp; try rfl) (by simpa using ih2 (by omega)) _
    have hm : (if (a.level : Int) < b.level then (b.level : Int) else a.level) = (max a.level b.level : Nat) := by split <;> omega
    simp only [Ty.raw, Ty.level]
    refine den_w0 (fn := Tryz.f102) (by rfl) (by rfl) (by kernel_rfl) rfl (by rfl) ?_
    simp -implicitDefEqProofs
    (repeat (first | refine Wp.seq ?_ | refine Wp.block ?_ | refine Wp.skip ?_ | refine Wp.exit ?_ | refine Wp.ret ?_ | refine thenK_n ?_ | refine thenK_r ?_ | refine thenK_e ?_ | refine blockK_n ?_ | refine blockK_r ?_ | refine blockK_e ?_ | refine blockK_o (by decide) ?_ | (refine Wp.condT ?_ ?_; focus (simp -implicitDefEqProofs [c1, c2] <;> fail)) | (refine Wp.condF ?_ ?_; focus (simp -implicitDefEqProofs [c1, c2] <;> fail)) | refine Wp.reg (by simp -implicitDefEqProofs [c1, c2]; exact ⟨rfl, rfl⟩) ?_ | refine Wp.regA (by simp -implicitDefEqProofs [c1, c2]; exact ⟨rfl, rfl⟩) (by rfl) ?_))
    (apply endK_r; (focus (simp -implicitDefEqProofs [Tryz.f102]; try rfl)); (focus (intro g; simp -implicitDefEqProofs [Tryz.f102]; split <;> omega)); exact ⟨_, rfl⟩)
  | fn a b ih1 ih2 =>
    simp only [Ty.size] at hs
    have hl := a.level_size
    have c1 : ∀ (g : Nat) (S : St) (o1 : Own), callT (X.at g) (den X E) S 102 [.agg [.int .i64 a.raw.k, .sl (List.map RT.cells a.raw.as) o1]] = some (.int .i64 a.level, S) := by
      intros
      simpa using call_up (cf := X.at _) (fn := Tryz.f102) (args' := [_]) (by kernel_rfl) (by simp) (by simp; try rfl) (by simpa using ih1 (by omega)) _
    have c2 : ∀ (g : Nat) (S : St) (o1 : Own), callT (X.at g) (den X E) S 102 [.agg [.int .i64 b.raw.k, .sl (List.map RT.cells b.raw.as) o1]] = some (.int .i64 b.level, S) := by
      intros
      simpa using call_up (cf := X.at _) (fn := Tryz.f102) (args' := [_]) (by kernel_rfl) (by simp) (by simp; try rfl) (by simpa using ih2 (by omega)) _
    have hw : IntKind.i64.wrap ((a.level : Int) + 1) = a.level + 1 := IntWalk.i64_in _ (by omega)
    have hm : (if (a.level : Int) + 1 < b.level then (b.level : Int) else a.level + 1) = (max (a.level + 1) b.level : Nat) := by split <;> omega
    simp only [Ty.raw, Ty.level]
    refine den_w0 (fn := Tryz.f102) (by rfl) (by rfl) (by kernel_rfl) rfl (by rfl) ?_
    simp -implicitDefEqProofs
    (repeat (first | refine Wp.seq ?_ | refine Wp.block ?_ | refine Wp.skip ?_ | refine Wp.exit ?_ | refine Wp.ret ?_ | refine thenK_n ?_ | refine thenK_r ?_ | refine thenK_e ?_ | refine blockK_n ?_ | refine blockK_r ?_ | refine blockK_e ?_ | refine blockK_o (by decide) ?_ | (refine Wp.condT ?_ ?_; focus (simp -implicitDefEqProofs [c1, c2, hw] <;> fail)) | (refine Wp.condF ?_ ?_; focus (simp -implicitDefEqProofs [c1, c2, hw] <;> fail)) | refine Wp.reg (by simp -implicitDefEqProofs [c1, c2, hw]; exact ⟨rfl, rfl⟩) ?_ | refine Wp.regA (by simp -implicitDefEqProofs [c1, c2, hw]; exact ⟨rfl, rfl⟩) (by rfl) ?_))
    (apply endK_r; (focus (simp -implicitDefEqProofs [Tryz.f102]; try rfl)); (focus (intro g; simp -implicitDefEqProofs [Tryz.f102]; split <;> omega)); exact ⟨_, rfl⟩)
  | _ =>
    simp only [Ty.raw, Ty.level]
    refine den_w0 (fn := Tryz.f102) (by rfl) (by rfl) (by kernel_rfl) rfl (by rfl) ?_
    simp -implicitDefEqProofs
    (repeat (first | refine Wp.seq ?_ | refine Wp.block ?_ | refine Wp.skip ?_ | refine Wp.exit ?_ | refine Wp.ret ?_ | refine thenK_n ?_ | refine thenK_r ?_ | refine thenK_e ?_ | refine blockK_n ?_ | refine blockK_r ?_ | refine blockK_e ?_ | refine blockK_o (by decide) ?_ | (refine Wp.condT ?_ ?_; focus (simp -implicitDefEqProofs <;> fail)) | (refine Wp.condF ?_ ?_; focus (simp -implicitDefEqProofs <;> fail)) | refine Wp.reg (by simp -implicitDefEqProofs; exact ⟨rfl, rfl⟩) ?_ | refine Wp.regA (by simp -implicitDefEqProofs; exact ⟨rfl, rfl⟩) (by rfl) ?_))
    (apply endK_r; (focus (simp -implicitDefEqProofs [Tryz.f102]; try rfl)); (focus (intro g; simp -implicitDefEqProofs [Tryz.f102])); exact ⟨_, rfl⟩)
theorem rlevel1_c {s : Ty} (hs : s.size ≤ 1000000000) (g : Nat) (S : St) (o1 : Own) : callT (X.at g) (den X E) S 102 [.agg [.int .i64 s.raw.k, .sl (List.map RT.cells s.raw.as) o1]] = some (.int .i64 s.level, S) := by
  simpa using call_up (cf := X.at g) (fn := Tryz.f102) (args' := [.agg [.int .i64 s.raw.k, .sl (List.map RT.cells s.raw.as) o1]]) (by kernel_rfl) (by simp) (by simp; try rfl) (rlevel1 s hs) S
theorem Ty.data_level (s : Ty) : s.data = decide (s.level = 0) := by
  have h0 : ∀ m n : Nat, (max m n = 0) = (m = 0 ∧ n = 0) := fun m n => propext (by omega)
  induction s with
  | pair a b ih1 ih2 => simp only [Ty.data, Ty.level, ih1, ih2, h0, Bool.decide_and]
  | fn a b _ _ => simp [Ty.data, Ty.level, h0]
  | _ => rfl
theorem data1 (s : Ty) (hs : s.size ≤ 64) : den X E 64 [s.raw.enc] [] = some (.tup [.bool s.data, .int .i64 0], []) := by
  have c1 := check1_c (E := E) (k := s.raw.k) (ts := s.raw.as) (by simp [Ty.raw_nodes]; omega)
  simp [s.raw_err hs] at c1
  have c2 := rlevel1_c (E := E) (s := s) (by omega)
  have hd := Ty.data_level s
  rw [hd]
  by_cases h : s.level = 0
  · simp [h] at c2
    refine den_w0 (fn := Tryz.f64) (by rfl) (by rfl) (by kernel_rfl) rfl (by rfl) ?_
    simp -implicitDefEqProofs
    (repeat (first | refine Wp.seq ?_ | refine Wp.block ?_ | refine Wp.skip ?_ | refine Wp.exit ?_ | refine Wp.ret ?_ | refine thenK_n ?_ | refine thenK_r ?_ | refine thenK_e ?_ | refine blockK_n ?_ | refine blockK_r ?_ | refine blockK_e ?_ | refine blockK_o (by decide) ?_ | (refine Wp.condT ?_ ?_; focus (simp -implicitDefEqProofs [c1, c2] <;> fail)) | (refine Wp.condF ?_ ?_; focus (simp -implicitDefEqProofs [c1, c2] <;> fail)) | refine Wp.reg (by simp -implicitDefEqProofs [c1, c2]; exact ⟨rfl, rfl⟩) ?_ | refine Wp.regA (by simp -implicitDefEqProofs [c1, c2]; exact ⟨rfl, rfl⟩) (by rfl) ?_))
    (apply endK_r; (focus (simp -implicitDefEqProofs [Tryz.f64, h]; try rfl)); (focus (intro g; simp -implicitDefEqProofs [Tryz.f64, h])); exact ⟨_, rfl⟩)
  · have h' : ¬ (s.level : Int) = 0 := by omega
    refine den_w0 (fn := Tryz.f64) (by rfl) (by rfl) (by kernel_rfl) rfl (by rfl) ?_
    simp -implicitDefEqProofs
    (repeat (first | refine Wp.seq ?_ | refine Wp.block ?_ | refine Wp.skip ?_ | refine Wp.exit ?_ | refine Wp.ret ?_ | refine thenK_n ?_ | refine thenK_r ?_ | refine thenK_e ?_ | refine blockK_n ?_ | refine blockK_r ?_ | refine blockK_e ?_ | refine blockK_o (by decide) ?_ | (refine Wp.condT ?_ ?_; focus (simp -implicitDefEqProofs [c1, c2, h'] <;> fail)) | (refine Wp.condF ?_ ?_; focus (simp -implicitDefEqProofs [c1, c2, h'] <;> fail)) | refine Wp.reg (by simp -implicitDefEqProofs [c1, c2, h']; exact ⟨rfl, rfl⟩) ?_ | refine Wp.regA (by simp -implicitDefEqProofs [c1, c2, h']; exact ⟨rfl, rfl⟩) (by rfl) ?_))
    (apply endK_r; (focus (simp -implicitDefEqProofs [Tryz.f64, h, h']; try rfl)); (focus (intro g; simp -implicitDefEqProofs [Tryz.f64, h, h'])); exact ⟨_, rfl⟩)
theorem data1_c {s : Ty} (hs : s.size ≤ 64) (g : Nat) (S : St) (o1 : Own) : callT (X.at g) (den X E) S 64 [.agg [.int .i64 s.raw.k, .sl (List.map RT.cells s.raw.as) o1]] = some (.tup [.bool s.data, .int .i64 0], S) := by
  simpa using call_up (cf := X.at g) (fn := Tryz.f64) (args' := [.agg [.int .i64 s.raw.k, .sl (List.map RT.cells s.raw.as) o1]]) (by kernel_rfl) (by simp) (by simp; try rfl) (data1 s hs) S
end M
end Go.Proofs.YthclcchnodjjpaaGreatDoor
