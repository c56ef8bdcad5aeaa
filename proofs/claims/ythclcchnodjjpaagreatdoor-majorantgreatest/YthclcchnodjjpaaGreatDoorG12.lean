/- A part of the proof: TmA, TmB, TmC. -/
import Derived.Test.YthclcchnodjjpaaGreatDoorG11
import Derived.Test.YthclcchnodjjpaaGreatDoorG10
/- ref01.size, shape, Check, Zero, Same; ref02.Count, Copy, args, Shape, Check, N, T, Var. -/
set_option linter.unusedVariables false
set_option linter.unusedSimpArgs false
set_option maxRecDepth 10000
set_option maxHeartbeats 4000000
namespace Go.Proofs.YthclcchnodjjpaaGreatDoor
namespace M
attribute [local irreducible] Wp thenK blockK endK
variable {E : Oracle}
open T (Ty Tm)
theorem size1 (t : RT) (ht : t.nodes ≤ 1000000000) : den X E 116 [t.enc] [] = some (.int .i64 t.nodes, []) := by
  induction t using RT.ind with | h k l ih =>
  have ihc : ∀ a ∈ l, ∀ (g : Nat) (S : St) (o1 : Own), callT (X.at g) (den X E) S 116 [.agg [.int .i64 a.k, .sl (List.map RT.cells a.as) o1]] = some (.int .i64 a.nodes, S) := by
    intros
    simpa using call_up (cf := X.at _) (fn := Tryz.f116) (args' := [_]) (by kernel_rfl) (by simp) (by simp; try rfl) (ih _ (by assumption) (by have := RT.nodes_mem (k := k) (l := l) (by assumption); omega)) _
  have hlen := RT.nodes_len k l
  have hnod := RT.nodes_mk k l
  refine den_w0 (fn := Tryz.f116) (by rfl) (by rfl) (by kernel_rfl) rfl (by rfl) ?_
  simp -implicitDefEqProofs
  (repeat (first | refine Wp.seq ?_ | refine Wp.block ?_ | refine Wp.skip ?_ | refine Wp.exit ?_ | refine Wp.ret ?_ | refine thenK_n ?_ | refine thenK_r ?_ | refine thenK_e ?_ | refine blockK_n ?_ | refine blockK_r ?_ | refine blockK_e ?_ | refine blockK_o (by decide) ?_ | (refine Wp.condT ?_ ?_; focus (simp -implicitDefEqProofs <;> fail)) | (refine Wp.condF ?_ ?_; focus (simp -implicitDefEqProofs <;> fail)) | refine Wp.reg (by simp -implicitDefEqProofs; exact ⟨rfl, rfl⟩) ?_ | refine Wp.regA (by simp -implicitDefEqProofs; exact ⟨rfl, rfl⟩) (by rfl) ?_))
  refine Wp.loopF [3, 5, 9, 10, 11, 12, 13, 14, 15, 16, 17] [] (fun n w c tk => ∃ done rest, l = done ++ rest ∧ n = rest.length ∧ w 9 = .int .i64 done.length ∧ w 3 = .int .i64 (1 + (List.map RT.nodes done).sum : Nat)) (l.length) ?_ ?_ ?_ ?_
  · rfl
  · rfl
  · exact ⟨[], l, by simp, rfl, rfl, rfl⟩
  rintro n w c junk tk r σ ⟨done, rest, hl, rfl, hix, hacc⟩ hr hσ
  simp -implicitDefEqProofs [hix, hacc] at hr hσ
  subst hr hσ
  rcases rest with _ | ⟨a, rest⟩
  rotate_left
  · have ha : el l done.length = some a := by simp [hl]
    have hlt : done.length < l.length := by simp [hl]
    have hmem : a ∈ l := by simp [hl]
    have hw : IntKind.i64.wrap ((done.length : Int) + 1) = done.length + 1 := IntWalk.i64_in _ (by omega)
    have hs : (List.map RT.nodes l).sum = (List.map RT.nodes done).sum + RT.nodes a + (List.map RT.nodes rest).sum := by rw [hl]; simp; omega
    have hws : IntKind.i64.wrap ((1 : Int) + (List.map RT.nodes done).sum + RT.nodes a) = 1 + (List.map RT.nodes done).sum + RT.nodes a := IntWalk.i64_in _ (by omega)
    (repeat (first | refine Wp.seq ?_ | refine Wp.block ?_ | refine Wp.skip ?_ | refine Wp.exit ?_ | refine Wp.ret ?_ | refine thenK_n ?_ | refine thenK_r ?_ | refine thenK_e ?_ | refine blockK_n ?_ | refine blockK_r ?_ | refine blockK_e ?_ | refine blockK_o (by decide) ?_ | (refine Wp.condT ?_ ?_; focus (simp -implicitDefEqProofs [ha, hlt, hw, hws, ihc a hmem] <;> fail)) | (refine Wp.condF ?_ ?_; focus (simp -implicitDefEqProofs [ha, hlt, hw, hws, ihc a hmem] <;> fail)) | refine Wp.reg (by simp -implicitDefEqProofs [ha, hlt, hw, hws, ihc a hmem]; exact ⟨rfl, rfl⟩) ?_ | refine Wp.regA (by simp -implicitDefEqProofs [ha, hlt, hw, hws, ihc a hmem]; exact ⟨rfl, rfl⟩) (by rfl) ?_))
    refine ⟨by simp, ⟨_, by simp -implicitDefEqProofs; rfl⟩, rest.length, by simp, done ++ [a], rest, by simp [hl], rfl, by simp, by simp; try omega⟩
  simp at hl
  subst hl
  (repeat (first | refine Wp.seq ?_ | refine Wp.block ?_ | refine Wp.skip ?_ | refine Wp.exit ?_ | refine Wp.ret ?_ | refine thenK_n ?_ | refine thenK_r ?_ | refine thenK_e ?_ | refine blockK_n ?_ | refine blockK_r ?_ | refine blockK_e ?_ | refine blockK_o (by decide) ?_ | (refine Wp.condT ?_ ?_; focus (simp -implicitDefEqProofs <;> fail)) | (refine Wp.condF ?_ ?_; focus (simp -implicitDefEqProofs <;> fail)) | refine Wp.reg (by simp -implicitDefEqProofs; exact ⟨rfl, rfl⟩) ?_ | refine Wp.regA (by simp -implicitDefEqProofs; exact ⟨rfl, rfl⟩) (by rfl) ?_))
  (apply endK_r; (focus (simp -implicitDefEqProofs [Tryz.f116, hnod]; try rfl)); (focus (intro g; simp -implicitDefEqProofs [Tryz.f116, hnod])); exact ⟨_, rfl⟩)
theorem size1_c {k : Int} {ts : List RT} (ht : (RT.mk k ts).nodes ≤ 1000000000) (g : Nat) (S : St) (o1 : Own) : callT (X.at g) (den X E) S 116 [.agg [.int .i64 k, .sl (List.map RT.cells ts) o1]] = some (.int .i64 (RT.mk k ts).nodes, S) := by
  simpa using call_up (cf := X.at g) (fn := Tryz.f116) (args' := [.agg [.int .i64 k, .sl (List.map RT.cells ts) o1]]) (by kernel_rfl) (by simp) (by simp; try rfl) (size1 (.mk k ts) ht) S

theorem shape1 (t : RT) (ht : t.nodes ≤ 1000000000) : den X E 115 [t.enc] [] = some (.bool t.ok, []) := by
  induction t using RT.ind with | h k l ih =>
  have ihc : ∀ a ∈ l, ∀ (g : Nat) (S : St) (o1 : Own), callT (X.at g) (den X E) S 115 [.agg [.int .i64 a.k, .sl (List.map RT.cells a.as) o1]] = some (.bool a.ok, S) := by
    intros
    simpa using call_up (cf := X.at _) (fn := Tryz.f115) (args' := [_]) (by kernel_rfl) (by simp) (by simp; try rfl) (ih _ (by assumption) (by have := RT.nodes_mem (k := k) (l := l) (by assumption); omega)) _
  have hlen := RT.nodes_len k l
  refine den_w0 (fn := Tryz.f115) (by rfl) (by rfl) (by kernel_rfl) rfl (by rfl) ?_
  simp -implicitDefEqProofs
  (repeat (first | refine Wp.seq ?_ | refine Wp.skip ?_ | refine Wp.exit ?_ | refine Wp.ret ?_ | refine thenK_n ?_ | refine thenK_r ?_ | refine thenK_e ?_ | refine blockK_n ?_ | refine blockK_r ?_ | refine blockK_e ?_ | refine blockK_o (by decide) ?_ | (refine Wp.condT ?_ ?_; focus (simp -implicitDefEqProofs <;> fail)) | (refine Wp.condF ?_ ?_; focus (simp -implicitDefEqProofs <;> fail)) | refine Wp.reg (by simp -implicitDefEqProofs; exact ⟨rfl, rfl⟩) ?_ | refine Wp.regA (by simp -implicitDefEqProofs; exact ⟨rfl, rfl⟩) (by rfl) ?_))
  refine Wp.cutF [2, 3, 8, 9, 10, 11, 12, 13, 14] [] (fun w c tk => (k = 1 ∨ k = 2 ∨ k = 5 ∨ k = 3 ∨ k = 4) ∧ w 3 = .int .i64 (RT.want k) ∧ tk = []) ?_ ?_ ?_ ?_
  · rfl
  · rfl
  · by_cases h1 : k = 1
    · subst h1; (repeat (first | refine Wp.seq ?_ | refine Wp.block ?_ | refine Wp.skip ?_ | refine Wp.exit ?_ | refine Wp.ret ?_ | refine thenK_n ?_ | refine thenK_r ?_ | refine thenK_e ?_ | refine blockK_n ?_ | refine blockK_r ?_ | refine blockK_e ?_ | refine blockK_o (by decide) ?_ | (refine Wp.condT ?_ ?_; focus (simp -implicitDefEqProofs <;> fail)) | (refine Wp.condF ?_ ?_; focus (simp -implicitDefEqProofs <;> fail)) | refine Wp.reg (by simp -implicitDefEqProofs; exact ⟨rfl, rfl⟩) ?_ | refine Wp.regA (by simp -implicitDefEqProofs; exact ⟨rfl, rfl⟩) (by rfl) ?_)); refine ⟨by simp, ⟨_, by simp -implicitDefEqProofs; rfl⟩, by simp [RT.want]⟩
    by_cases h2 : k = 2
    · subst h2; (repeat (first | refine Wp.seq ?_ | refine Wp.block ?_ | refine Wp.skip ?_ | refine Wp.exit ?_ | refine Wp.ret ?_ | refine thenK_n ?_ | refine thenK_r ?_ | refine thenK_e ?_ | refine blockK_n ?_ | refine blockK_r ?_ | refine blockK_e ?_ | refine blockK_o (by decide) ?_ | (refine Wp.condT ?_ ?_; focus (simp -implicitDefEqProofs <;> fail)) | (refine Wp.condF ?_ ?_; focus (simp -implicitDefEqProofs <;> fail)) | refine Wp.reg (by simp -implicitDefEqProofs; exact ⟨rfl, rfl⟩) ?_ | refine Wp.regA (by simp -implicitDefEqProofs; exact ⟨rfl, rfl⟩) (by rfl) ?_)); refine ⟨by simp, ⟨_, by simp -implicitDefEqProofs; rfl⟩, by simp [RT.want]⟩
    by_cases h5 : k = 5
    · subst h5; (repeat (first | refine Wp.seq ?_ | refine Wp.block ?_ | refine Wp.skip ?_ | refine Wp.exit ?_ | refine Wp.ret ?_ | refine thenK_n ?_ | refine thenK_r ?_ | refine thenK_e ?_ | refine blockK_n ?_ | refine blockK_r ?_ | refine blockK_e ?_ | refine blockK_o (by decide) ?_ | (refine Wp.condT ?_ ?_; focus (simp -implicitDefEqProofs <;> fail)) | (refine Wp.condF ?_ ?_; focus (simp -implicitDefEqProofs <;> fail)) | refine Wp.reg (by simp -implicitDefEqProofs; exact ⟨rfl, rfl⟩) ?_ | refine Wp.regA (by simp -implicitDefEqProofs; exact ⟨rfl, rfl⟩) (by rfl) ?_)); refine ⟨by simp, ⟨_, by simp -implicitDefEqProofs; rfl⟩, by simp [RT.want]⟩
    by_cases h3 : k = 3
    · subst h3; (repeat (first | refine Wp.seq ?_ | refine Wp.block ?_ | refine Wp.skip ?_ | refine Wp.exit ?_ | refine Wp.ret ?_ | refine thenK_n ?_ | refine thenK_r ?_ | refine thenK_e ?_ | refine blockK_n ?_ | refine blockK_r ?_ | refine blockK_e ?_ | refine blockK_o (by decide) ?_ | (refine Wp.condT ?_ ?_; focus (simp -implicitDefEqProofs <;> fail)) | (refine Wp.condF ?_ ?_; focus (simp -implicitDefEqProofs <;> fail)) | refine Wp.reg (by simp -implicitDefEqProofs; exact ⟨rfl, rfl⟩) ?_ | refine Wp.regA (by simp -implicitDefEqProofs; exact ⟨rfl, rfl⟩) (by rfl) ?_)); refine ⟨by simp, ⟨_, by simp -implicitDefEqProofs; rfl⟩, by simp [RT.want]⟩
    by_cases h4 : k = 4
    · subst h4; (repeat (first | refine Wp.seq ?_ | refine Wp.block ?_ | refine Wp.skip ?_ | refine Wp.exit ?_ | refine Wp.ret ?_ | refine thenK_n ?_ | refine thenK_r ?_ | refine thenK_e ?_ | refine blockK_n ?_ | refine blockK_r ?_ | refine blockK_e ?_ | refine blockK_o (by decide) ?_ | (refine Wp.condT ?_ ?_; focus (simp -implicitDefEqProofs <;> fail)) | (refine Wp.condF ?_ ?_; focus (simp -implicitDefEqProofs <;> fail)) | refine Wp.reg (by simp -implicitDefEqProofs; exact ⟨rfl, rfl⟩) ?_ | refine Wp.regA (by simp -implicitDefEqProofs; exact ⟨rfl, rfl⟩) (by rfl) ?_)); refine ⟨by simp, ⟨_, by simp -implicitDefEqProofs; rfl⟩, by simp [RT.want]⟩
    have hb := RT.ok_bad (k := k) (l := l) (by omega)
    (repeat (first | refine Wp.seq ?_ | refine Wp.block ?_ | refine Wp.skip ?_ | refine Wp.exit ?_ | refine Wp.ret ?_ | refine thenK_n ?_ | refine thenK_r ?_ | refine thenK_e ?_ | refine blockK_n ?_ | refine blockK_r ?_ | refine blockK_e ?_ | refine blockK_o (by decide) ?_ | (refine Wp.condT ?_ ?_; focus (simp -implicitDefEqProofs [h1, h2, h3, h4, h5] <;> fail)) | (refine Wp.condF ?_ ?_; focus (simp -implicitDefEqProofs [h1, h2, h3, h4, h5] <;> fail)) | refine Wp.reg (by simp -implicitDefEqProofs [h1, h2, h3, h4, h5]; exact ⟨rfl, rfl⟩) ?_ | refine Wp.regA (by simp -implicitDefEqProofs [h1, h2, h3, h4, h5]; exact ⟨rfl, rfl⟩) (by rfl) ?_))
    (apply endK_r; (focus (simp -implicitDefEqProofs [Tryz.f115, hb]; try rfl)); (focus (intro g; simp -implicitDefEqProofs [Tryz.f115, hb])); exact ⟨_, rfl⟩)
  rintro w c junk tk r σ ⟨hk, h4, rfl⟩ hr hσ
  simp -implicitDefEqProofs [h4] at hr hσ
  subst hr hσ
  by_cases hlw : l.length = RT.want k
  rotate_left
  · have hb := RT.ok_len hk hlw
    have hlw' : ¬ ((l.length : Int) = RT.want k) := by omega
    (repeat (first | refine Wp.seq ?_ | refine Wp.block ?_ | refine Wp.skip ?_ | refine Wp.exit ?_ | refine Wp.ret ?_ | refine thenK_n ?_ | refine thenK_r ?_ | refine thenK_e ?_ | refine blockK_n ?_ | refine blockK_r ?_ | refine blockK_e ?_ | refine blockK_o (by decide) ?_ | (refine Wp.condT ?_ ?_; focus (simp -implicitDefEqProofs [hlw'] <;> fail)) | (refine Wp.condF ?_ ?_; focus (simp -implicitDefEqProofs [hlw'] <;> fail)) | refine Wp.reg (by simp -implicitDefEqProofs [hlw']; exact ⟨rfl, rfl⟩) ?_ | refine Wp.regA (by simp -implicitDefEqProofs [hlw']; exact ⟨rfl, rfl⟩) (by rfl) ?_))
    (apply endK_r; (focus (simp -implicitDefEqProofs [Tryz.f115, hb]; try rfl)); (focus (intro g; simp -implicitDefEqProofs [Tryz.f115, hb])); exact ⟨_, rfl⟩)
  have hok := RT.ok_all hk hlw
  have hlw' : (l.length : Int) = RT.want k := by omega
  (repeat (first | refine Wp.seq ?_ | refine Wp.block ?_ | refine Wp.skip ?_ | refine Wp.exit ?_ | refine Wp.ret ?_ | refine thenK_n ?_ | refine thenK_r ?_ | refine thenK_e ?_ | refine blockK_n ?_ | refine blockK_r ?_ | refine blockK_e ?_ | refine blockK_o (by decide) ?_ | (refine Wp.condT ?_ ?_; focus (simp -implicitDefEqProofs [hlw'] <;> fail)) | (refine Wp.condF ?_ ?_; focus (simp -implicitDefEqProofs [hlw'] <;> fail)) | refine Wp.reg (by simp -implicitDefEqProofs [hlw']; exact ⟨rfl, rfl⟩) ?_ | refine Wp.regA (by simp -implicitDefEqProofs [hlw']; exact ⟨rfl, rfl⟩) (by rfl) ?_))
  have hle : ∀ d : List RT, d.length < l.length → d.length < RT.want k := fun d h => by omega
  refine Wp.loopF [2, 5, 23, 24, 25, 26, 27, 28, 29, 30] [] (fun n w c tk => ∃ done rest, l = done ++ rest ∧ n = rest.length ∧ w 23 = .int .i64 done.length ∧ done.all RT.ok = true) (l.length) ?_ ?_ ?_ ?_
  · rfl
  · rfl
  · exact ⟨[], l, by simp, rfl, rfl, rfl⟩
  rintro n w c junk tk r σ ⟨done, rest, hl, rfl, hix, hall⟩ hr hσ
  simp -implicitDefEqProofs [hix] at hr hσ
  subst hr hσ
  rcases rest with _ | ⟨a, rest⟩
  rotate_left
  · have ha : el l done.length = some a := by simp [hl]
    have hlt : done.length < l.length := by simp [hl]
    have hmem : a ∈ l := by simp [hl]
    have hw : IntKind.i64.wrap ((done.length : Int) + 1) = done.length + 1 := IntWalk.i64_in _ (by omega)
    cases hP : RT.ok a with
    | false =>
      have hall : l.all RT.ok = false := by rw [hl]; simp [hP]
      (repeat (first | refine Wp.seq ?_ | refine Wp.block ?_ | refine Wp.skip ?_ | refine Wp.exit ?_ | refine Wp.ret ?_ | refine thenK_n ?_ | refine thenK_r ?_ | refine thenK_e ?_ | refine blockK_n ?_ | refine blockK_r ?_ | refine blockK_e ?_ | refine blockK_o (by decide) ?_ | (refine Wp.condT ?_ ?_; focus (simp -implicitDefEqProofs [ha, hlt, hw, hP, hle done hlt, ihc a hmem] <;> fail)) | (refine Wp.condF ?_ ?_; focus (simp -implicitDefEqProofs [ha, hlt, hw, hP, hle done hlt, ihc a hmem] <;> fail)) | refine Wp.reg (by simp -implicitDefEqProofs [ha, hlt, hw, hP, hle done hlt, ihc a hmem]; exact ⟨rfl, rfl⟩) ?_ | refine Wp.regA (by simp -implicitDefEqProofs [ha, hlt, hw, hP, hle done hlt, ihc a hmem]; exact ⟨rfl, rfl⟩) (by rfl) ?_))
      (apply endK_r; (focus (simp -implicitDefEqProofs [Tryz.f115, hok, hall]; try rfl)); (focus (intro g; simp -implicitDefEqProofs [Tryz.f115, hok, hall])); exact ⟨_, rfl⟩)
    | true =>
      (repeat (first | refine Wp.seq ?_ | refine Wp.block ?_ | refine Wp.skip ?_ | refine Wp.exit ?_ | refine Wp.ret ?_ | refine thenK_n ?_ | refine thenK_r ?_ | refine thenK_e ?_ | refine blockK_n ?_ | refine blockK_r ?_ | refine blockK_e ?_ | refine blockK_o (by decide) ?_ | (refine Wp.condT ?_ ?_; focus (simp -implicitDefEqProofs [ha, hlt, hw, hP, hle done hlt, ihc a hmem] <;> fail)) | (refine Wp.condF ?_ ?_; focus (simp -implicitDefEqProofs [ha, hlt, hw, hP, hle done hlt, ihc a hmem] <;> fail)) | refine Wp.reg (by simp -implicitDefEqProofs [ha, hlt, hw, hP, hle done hlt, ihc a hmem]; exact ⟨rfl, rfl⟩) ?_ | refine Wp.regA (by simp -implicitDefEqProofs [ha, hlt, hw, hP, hle done hlt, ihc a hmem]; exact ⟨rfl, rfl⟩) (by rfl) ?_))
      refine ⟨by simp, ⟨_, by simp -implicitDefEqProofs; rfl⟩, rest.length, by simp, done ++ [a], rest, by simp [hl], rfl, by simp, by simp [hall, hP]⟩
  simp at hl
  subst hl
  (repeat (first | refine Wp.seq ?_ | refine Wp.block ?_ | refine Wp.skip ?_ | refine Wp.exit ?_ | refine Wp.ret ?_ | refine thenK_n ?_ | refine thenK_r ?_ | refine thenK_e ?_ | refine blockK_n ?_ | refine blockK_r ?_ | refine blockK_e ?_ | refine blockK_o (by decide) ?_ | (refine Wp.condT ?_ ?_; focus (simp -implicitDefEqProofs [hlw] <;> fail)) | (refine Wp.condF ?_ ?_; focus (simp -implicitDefEqProofs [hlw] <;> fail)) | refine Wp.reg (by simp -implicitDefEqProofs [hlw]; exact ⟨rfl, rfl⟩) ?_ | refine Wp.regA (by simp -implicitDefEqProofs [hlw]; exact ⟨rfl, rfl⟩) (by rfl) ?_))
  (apply endK_r; (focus (simp -implicitDefEqProofs [Tryz.f115, hok, hall]; try rfl)); (focus (intro g; simp -implicitDefEqProofs [Tryz.f115, hok, hall])); exact ⟨_, rfl⟩)
theorem shape1_c {k : Int} {ts : List RT} (ht : (RT.mk k ts).nodes ≤ 1000000000) (g : Nat) (S : St) (o1 : Own) : callT (X.at g) (den X E) S 115 [.agg [.int .i64 k, .sl (List.map RT.cells ts) o1]] = some (.bool (RT.mk k ts).ok, S) := by
  simpa using call_up (cf := X.at g) (fn := Tryz.f115) (args' := [.agg [.int .i64 k, .sl (List.map RT.cells ts) o1]]) (by kernel_rfl) (by simp) (by simp; try rfl) (shape1 (.mk k ts) ht) S

theorem check1 (t : RT) (ht : t.nodes ≤ 1000000000) : den X E 99 [t.enc] [] = some (.int .i64 t.err, []) := by
  have c1 := shape1_c (E := E) (k := t.k) (ts := t.as) (by simpa using ht)
  have c2 := size1_c (E := E) (k := t.k) (ts := t.as) (by simpa using ht)
  simp at c1 c2
  cases hok : t.ok with
  | false =>
    have he : t.err = 2 := by simp [RT.err, hok]
    refine den_w0 (fn := Tryz.f99) (by rfl) (by rfl) (by kernel_rfl) rfl (by rfl) ?_
    simp -implicitDefEqProofs
    (repeat (first | refine Wp.seq ?_ | refine Wp.block ?_ | refine Wp.skip ?_ | refine Wp.exit ?_ | refine Wp.ret ?_ | refine thenK_n ?_ | refine thenK_r ?_ | refine thenK_e ?_ | refine blockK_n ?_ | refine blockK_r ?_ | refine blockK_e ?_ | refine blockK_o (by decide) ?_ | (refine Wp.condT ?_ ?_; focus (simp -implicitDefEqProofs [c1, hok] <;> fail)) | (refine Wp.condF ?_ ?_; focus (simp -implicitDefEqProofs [c1, hok] <;> fail)) | refine Wp.reg (by simp -implicitDefEqProofs [c1, hok]; exact ⟨rfl, rfl⟩) ?_ | refine Wp.regA (by simp -implicitDefEqProofs [c1, hok]; exact ⟨rfl, rfl⟩) (by rfl) ?_))
    (apply endK_r; (focus (simp -implicitDefEqProofs [Tryz.f99, he]; try rfl)); (focus (intro g; simp -implicitDefEqProofs [Tryz.f99, he])); exact ⟨_, rfl⟩)
  | true =>
    by_cases hn : t.nodes ≤ 64
    · have he : t.err = 0 := by simp [RT.err, hok, hn]
      have hn' : ¬ (64 : Int) < t.nodes := by omega
      refine den_w0 (fn := Tryz.f99) (by rfl) (by rfl) (by kernel_rfl) rfl (by rfl) ?_
      simp -implicitDefEqProofs
      (repeat (first | refine Wp.seq ?_ | refine Wp.block ?_ | refine Wp.skip ?_ | refine Wp.exit ?_ | refine Wp.ret ?_ | refine thenK_n ?_ | refine thenK_r ?_ | refine thenK_e ?_ | refine blockK_n ?_ | refine blockK_r ?_ | refine blockK_e ?_ | refine blockK_o (by decide) ?_ | (refine Wp.condT ?_ ?_; focus (simp -implicitDefEqProofs [c1, c2, hok, hn'] <;> fail)) | (refine Wp.condF ?_ ?_; focus (simp -implicitDefEqProofs [c1, c2, hok, hn'] <;> fail)) | refine Wp.reg (by simp -implicitDefEqProofs [c1, c2, hok, hn']; exact ⟨rfl, rfl⟩) ?_ | refine Wp.regA (by simp -implicitDefEqProofs [c1, c2, hok, hn']; exact ⟨rfl, rfl⟩) (by rfl) ?_))
      (apply endK_r; (focus (simp -implicitDefEqProofs [Tryz.f99, he]; try rfl)); (focus (intro g; simp -implicitDefEqProofs [Tryz.f99, he])); exact ⟨_, rfl⟩)
    · have he : t.err = 4 := by simp [RT.err, hok, hn]
      have hn' : (64 : Int) < t.nodes := by omega
      refine den_w0 (fn := Tryz.f99) (by rfl) (by rfl) (by kernel_rfl) rfl (by rfl) ?_
      simp -implicitDefEqProofs
      (repeat (first | refine Wp.seq ?_ | refine Wp.block ?_ | refine Wp.skip ?_ | refine Wp.exit ?_ | refine Wp.ret ?_ | refine thenK_n ?_ | refine thenK_r ?_ | refine thenK_e ?_ | refine blockK_n ?_ | refine blockK_r ?_ | refine blockK_e ?_ | refine blockK_o (by decide) ?_ | (refine Wp.condT ?_ ?_; focus (simp -implicitDefEqProofs [c1, c2, hok, hn'] <;> fail)) | (refine Wp.condF ?_ ?_; focus (simp -implicitDefEqProofs [c1, c2, hok, hn'] <;> fail)) | refine Wp.reg (by simp -implicitDefEqProofs [c1, c2, hok, hn']; exact ⟨rfl, rfl⟩) ?_ | refine Wp.regA (by simp -implicitDefEqProofs [c1, c2, hok, hn']; exact ⟨rfl, rfl⟩) (by rfl) ?_))
      (apply endK_r; (focus (simp -implicitDefEqProofs [Tryz.f99, he]; try rfl)); (focus (intro g; simp -implicitDefEqProofs [Tryz.f99, he])); exact ⟨_, rfl⟩)
theorem check1_c {k : Int} {ts : List RT} (ht : (RT.mk k ts).nodes ≤ 1000000000) (g : Nat) (S : St) (o1 : Own) : callT (X.at g) (den X E) S 99 [.agg [.int .i64 k, .sl (List.map RT.cells ts) o1]] = some (.int .i64 (RT.mk k ts).err, S) := by
  simpa using call_up (cf := X.at g) (fn := Tryz.f99) (args' := [.agg [.int .i64 k, .sl (List.map RT.cells ts) o1]]) (by kernel_rfl) (by simp) (by simp; try rfl) (check1 (.mk k ts) ht) S
end M
end Go.Proofs.YthclcchnodjjpaaGreatDoor
/- ref02.Count, Copy, N, T, Var, args, Shape, Check; ref01.Zero. -/
set_option linter.unusedVariables false
set_option linter.unusedSimpArgs false
set_option maxRecDepth 10000
set_option maxHeartbeats 4000000
namespace Go.Proofs.YthclcchnodjjpaaGreatDoor
namespace M
attribute [local irreducible] Wp thenK blockK endK
variable {E : Oracle}
open T (Ty Tm)
theorem count2 (t : RM) (ht : t.nodes ≤ 1000000000) : den X E 76 [t.enc] [] = some (.int .i64 t.count, []) := by
  induction t using RM.ind with | h k i t l ih =>
  have ihc : ∀ a ∈ l, ∀ (g : Nat) (S : St) (o1 o2 : Own), callT (X.at g) (den X E) S 76 [.agg [.int .i64 a.k, .int .i64 a.i, .int .i64 a.ty.k, .sl (List.map RT.cells a.ty.as) o1, .sl (List.map RM.cells a.as) o2]] = some (.int .i64 a.count, S) := by
    intros
    simpa using call_up (cf := X.at _) (fn := Tryz.f76) (args' := [_]) (by kernel_rfl) (by simp) (by simp; try rfl) (ih _ (by assumption) (by have := RM.nodes_mem (k := k) (i := i) (t := t) (l := l) (by assumption); omega)) _
  have hlen := RM.nodes_len k i t l
  have hnod := RM.count_mk k i t l
  have hcl := RM.count_le (.mk k i t l)
  refine den_w0 (fn := Tryz.f76) (by rfl) (by rfl) (by kernel_rfl) rfl (by rfl) ?_
  simp -implicitDefEqProofs
  (repeat (first | refine Wp.seq ?_ | refine Wp.block ?_ | refine Wp.skip ?_ | refine Wp.exit ?_ | refine Wp.ret ?_ | refine thenK_n ?_ | refine thenK_r ?_ | refine thenK_e ?_ | refine blockK_n ?_ | refine blockK_r ?_ | refine blockK_e ?_ | refine blockK_o (by decide) ?_ | (refine Wp.condT ?_ ?_; focus (simp -implicitDefEqProofs <;> fail)) | (refine Wp.condF ?_ ?_; focus (simp -implicitDefEqProofs <;> fail)) | refine Wp.reg (by simp -implicitDefEqProofs; exact ⟨rfl, rfl⟩) ?_ | refine Wp.regA (by simp -implicitDefEqProofs; exact ⟨rfl, rfl⟩) (by rfl) ?_))
  refine Wp.loopF [3, 5, 9, 10, 11, 12, 13, 14, 15, 16, 17] [] (fun n w c tk => ∃ done rest, l = done ++ rest ∧ n = rest.length ∧ w 9 = .int .i64 done.length ∧ w 3 = .int .i64 (1 + (List.map RM.count done).sum : Nat)) (l.length) ?_ ?_ ?_ ?_
  · rfl
  · rfl
  · exact ⟨[], l, by simp, rfl, rfl, rfl⟩
  rintro n w c junk tk r σ ⟨done, rest, hl, rfl, hix, hacc⟩ hr hσ
  simp -implicitDefEqProofs [hix, hacc] at hr hσ
  subst hr hσ
  rcases rest with _ | ⟨a, rest⟩
  rotate_left
  · have ha : el l done.length = some a := by simp [hl]
    have hlt : done.length < l.length := by simp [hl]
    have hmem : a ∈ l := by simp [hl]
    have hw : IntKind.i64.wrap ((done.length : Int) + 1) = done.length + 1 := IntWalk.i64_in _ (by omega)
    have hs : (List.map RM.count l).sum = (List.map RM.count done).sum + RM.count a + (List.map RM.count rest).sum := by rw [hl]; simp; omega
    have hws : IntKind.i64.wrap ((1 : Int) + (List.map RM.count done).sum + RM.count a) = 1 + (List.map RM.count done).sum + RM.count a := IntWalk.i64_in _ (by omega)
    (repeat (first | refine Wp.seq ?_ | refine Wp.block ?_ | refine Wp.skip ?_ | refine Wp.exit ?_ | refine Wp.ret ?_ | refine thenK_n ?_ | refine thenK_r ?_ | refine thenK_e ?_ | refine blockK_n ?_ | refine blockK_r ?_ | refine blockK_e ?_ | refine blockK_o (by decide) ?_ | (refine Wp.condT ?_ ?_; focus (simp -implicitDefEqProofs [ha, hlt, hw, hws, ihc a hmem] <;> fail)) | (refine Wp.condF ?_ ?_; focus (simp -implicitDefEqProofs [ha, hlt, hw, hws, ihc a hmem] <;> fail)) | refine Wp.reg (by simp -implicitDefEqProofs [ha, hlt, hw, hws, ihc a hmem]; exact ⟨rfl, rfl⟩) ?_ | refine Wp.regA (by simp -implicitDefEqProofs [ha, hlt, hw, hws, ihc a hmem]; exact ⟨rfl, rfl⟩) (by rfl) ?_))
    refine ⟨by simp, ⟨_, by simp -implicitDefEqProofs; rfl⟩, rest.length, by simp, done ++ [a], rest, by simp [hl], rfl, by simp, by simp; try omega⟩
  simp at hl
  subst hl
  (repeat (first | refine Wp.seq ?_ | refine Wp.block ?_ | refine Wp.skip ?_ | refine Wp.exit ?_ | refine Wp.ret ?_ | refine thenK_n ?_ | refine thenK_r ?_ | refine thenK_e ?_ | refine blockK_n ?_ | refine blockK_r ?_ | refine blockK_e ?_ | refine blockK_o (by decide) ?_ | (refine Wp.condT ?_ ?_; focus (simp -implicitDefEqProofs <;> fail)) | (refine Wp.condF ?_ ?_; focus (simp -implicitDefEqProofs <;> fail)) | refine Wp.reg (by simp -implicitDefEqProofs; exact ⟨rfl, rfl⟩) ?_ | refine Wp.regA (by simp -implicitDefEqProofs; exact ⟨rfl, rfl⟩) (by rfl) ?_))
  (apply endK_r; (focus (simp -implicitDefEqProofs [Tryz.f76, hnod]; try rfl)); (focus (intro g; simp -implicitDefEqProofs [Tryz.f76, hnod])); exact ⟨_, rfl⟩)
theorem count2_c {k i m : Int} {us : List RT} {ts : List RM} (ht : (RM.mk k i (.mk m us) ts).nodes ≤ 1000000000) (g : Nat) (S : St) (o1 o2 : Own) : callT (X.at g) (den X E) S 76 [.agg [.int .i64 k, .int .i64 i, .int .i64 m, .sl (List.map RT.cells us) o1, .sl (List.map RM.cells ts) o2]] = some (.int .i64 (RM.mk k i (.mk m us) ts).count, S) := by
  simpa using call_up (cf := X.at g) (fn := Tryz.f76) (args' := [.agg [.int .i64 k, .int .i64 i, .int .i64 m, .sl (List.map RT.cells us) o1, .sl (List.map RM.cells ts) o2]]) (by kernel_rfl) (by simp) (by simp; try rfl) (count2 (.mk k i (.mk m us) ts) ht) S

theorem copy2 (t : RM) (ht : t.nodes ≤ 1000000000) : den X E 78 [t.enc] [] = some (t.enc, []) := by
  induction t using RM.ind with | h k i t l ih =>
  have ihc : ∀ a ∈ l, ∀ (g : Nat) (S : St) (o1 o2 : Own), callT (X.at g) (den X E) S 78 [.agg [.int .i64 a.k, .int .i64 a.i, .int .i64 a.ty.k, .sl (List.map RT.cells a.ty.as) o1, .sl (List.map RM.cells a.as) o2]] = some (.agg [.int .i64 a.k, .int .i64 a.i, .int .i64 a.ty.k, .sl (List.map RT.cells a.ty.as) .dead, .sl (List.map RM.cells a.as) .dead], S) := by
    intros
    simpa using call_up (cf := X.at _) (fn := Tryz.f78) (args' := [_]) (by kernel_rfl) (by simp) (by simp; try rfl) (ih _ (by assumption) (by have := RM.nodes_mem (k := k) (i := i) (t := t) (l := l) (by assumption); omega)) _
  have hlen := RM.nodes_len k i t l
  have hty := RM.nodes_ty k i t l
  have c1 := copy_c (E := E) (k := t.k) (ts := t.as) (by simp; omega)
  refine den_w0 (fn := Tryz.f78) (by rfl) (by rfl) (by kernel_rfl) rfl (by rfl) ?_
  simp -implicitDefEqProofs
  (repeat (first | refine Wp.seq ?_ | refine Wp.block ?_ | refine Wp.skip ?_ | refine Wp.exit ?_ | refine Wp.ret ?_ | refine thenK_n ?_ | refine thenK_r ?_ | refine thenK_e ?_ | refine blockK_n ?_ | refine blockK_r ?_ | refine blockK_e ?_ | refine blockK_o (by decide) ?_ | (refine Wp.condT ?_ ?_; focus (simp -implicitDefEqProofs <;> fail)) | (refine Wp.condF ?_ ?_; focus (simp -implicitDefEqProofs <;> fail)) | refine Wp.reg (by simp -implicitDefEqProofs; exact ⟨rfl, rfl⟩) ?_ | refine Wp.regA (by simp -implicitDefEqProofs; exact ⟨rfl, rfl⟩) (by rfl) ?_))
  refine Wp.loopF [3, 5, 9, 10, 11, 12, 13, 14, 15, 16, 17, 18] [] (fun n w c tk => ∃ done rest o, l = done ++ rest ∧ n = rest.length ∧ w 9 = .int .i64 done.length ∧ w 3 = .sl (List.map RM.cells done) o ∧ Can tk (List.map RM.cells done) o) (l.length) ?_ ?_ ?_ ?_
  · rfl
  · rfl
  · exact ⟨[], l, .full, by simp, rfl, rfl, rfl, trivial⟩
  rintro n w c junk tk r σ ⟨done, rest, o, hl, rfl, hix, hacc, hcan⟩ hr hσ
  simp -implicitDefEqProofs [hix, hacc] at hr hσ
  subst hr hσ
  rcases rest with _ | ⟨a, rest⟩
  rotate_left
  · have ha : el l done.length = some a := by simp [hl]
    have hlt : done.length < l.length := by simp [hl]
    have hmem : a ∈ l := by simp [hl]
    have hw : IntKind.i64.wrap ((done.length : Int) + 1) = done.length + 1 := IntWalk.i64_in _ (by omega)
    obtain ⟨o', tk', happ, hcan'⟩ := can_app hcan 5 (by decide) (by simp) (by simp; omega)
    (repeat (first | refine Wp.seq ?_ | refine Wp.block ?_ | refine Wp.skip ?_ | refine Wp.exit ?_ | refine Wp.ret ?_ | refine thenK_n ?_ | refine thenK_r ?_ | refine thenK_e ?_ | refine blockK_n ?_ | refine blockK_r ?_ | refine blockK_e ?_ | refine blockK_o (by decide) ?_ | (refine Wp.condT ?_ ?_; focus (simp -implicitDefEqProofs [ha, hlt, hw, happ, ihc a hmem] <;> fail)) | (refine Wp.condF ?_ ?_; focus (simp -implicitDefEqProofs [ha, hlt, hw, happ, ihc a hmem] <;> fail)) | refine Wp.reg (by simp -implicitDefEqProofs [ha, hlt, hw, happ, ihc a hmem]; exact ⟨rfl, rfl⟩) ?_ | refine Wp.regA (by simp -implicitDefEqProofs [ha, hlt, hw, happ, ihc a hmem]; exact ⟨rfl, rfl⟩) (by rfl) ?_))
    refine ⟨by simp, ⟨_, by simp -implicitDefEqProofs; rfl⟩, rest.length, by simp, done ++ [a], rest, o', by simp [hl], rfl, by simp, by simp, by simpa using hcan' _⟩
  simp at hl
  subst hl
  (repeat (first | refine Wp.seq ?_ | refine Wp.block ?_ | refine Wp.skip ?_ | refine Wp.exit ?_ | refine Wp.ret ?_ | refine thenK_n ?_ | refine thenK_r ?_ | refine thenK_e ?_ | refine blockK_n ?_ | refine blockK_r ?_ | refine blockK_e ?_ | refine blockK_o (by decide) ?_ | (refine Wp.condT ?_ ?_; focus (simp -implicitDefEqProofs [c1] <;> fail)) | (refine Wp.condF ?_ ?_; focus (simp -implicitDefEqProofs [c1] <;> fail)) | refine Wp.reg (by simp -implicitDefEqProofs [c1]; exact ⟨rfl, rfl⟩) ?_ | refine Wp.regA (by simp -implicitDefEqProofs [c1]; exact ⟨rfl, rfl⟩) (by rfl) ?_))
  (apply endK_r; (focus (simp -implicitDefEqProofs [Tryz.f78]; try rfl)); (focus (intro g; simp -implicitDefEqProofs [Tryz.f78])); exact ⟨_, rfl⟩)
theorem copy2_c {k i m : Int} {us : List RT} {ts : List RM} (ht : (RM.mk k i (.mk m us) ts).nodes ≤ 1000000000) (g : Nat) (S : St) (o1 o2 : Own) : callT (X.at g) (den X E) S 78 [.agg [.int .i64 k, .int .i64 i, .int .i64 m, .sl (List.map RT.cells us) o1, .sl (List.map RM.cells ts) o2]] = some (.agg [.int .i64 k, .int .i64 i, .int .i64 m, .sl (List.map RT.cells us) .dead, .sl (List.map RM.cells ts) .dead], S) := by
  simpa using call_up (cf := X.at g) (fn := Tryz.f78) (args' := [.agg [.int .i64 k, .int .i64 i, .int .i64 m, .sl (List.map RT.cells us) o1, .sl (List.map RM.cells ts) o2]]) (by kernel_rfl) (by simp) (by simp; try rfl) (copy2 (.mk k i (.mk m us) ts) ht) S

theorem node2 (k : Int) (l : List RM) (hl : ∀ a ∈ l, a.nodes ≤ 1000000000) (hlen : l.length ≤ 1000000000) : den X E 51 [.int .i64 k, .sl (l.map RM.cells) .dead] [] = some ((RM.mk k 0 (.mk 0 []) l).enc, []) := by
  have ihc := fun (a : RM) (ha : a ∈ l) => copy2_c (E := E) (k := a.k) (i := a.i) (m := a.ty.k) (us := a.ty.as) (ts := a.as) (by simpa using hl a ha)
  refine den_w0 (fn := Tryz.f51) (by rfl) (by rfl) (by kernel_rfl) rfl (by rfl) ?_
  simp -implicitDefEqProofs
  (repeat (first | refine Wp.seq ?_ | refine Wp.block ?_ | refine Wp.skip ?_ | refine Wp.exit ?_ | refine Wp.ret ?_ | refine thenK_n ?_ | refine thenK_r ?_ | refine thenK_e ?_ | refine blockK_n ?_ | refine blockK_r ?_ | refine blockK_e ?_ | refine blockK_o (by decide) ?_ | (refine Wp.condT ?_ ?_; focus (simp -implicitDefEqProofs <;> fail)) | (refine Wp.condF ?_ ?_; focus (simp -implicitDefEqProofs <;> fail)) | refine Wp.reg (by simp -implicitDefEqProofs; exact ⟨rfl, rfl⟩) ?_ | refine Wp.regA (by simp -implicitDefEqProofs; exact ⟨rfl, rfl⟩) (by rfl) ?_))
  refine Wp.loopF [5, 7, 10, 11, 12, 13, 14, 15, 16, 17, 18, 19] [] (fun n w c tk => ∃ done rest o, l = done ++ rest ∧ n = rest.length ∧ w 10 = .int .i64 done.length ∧ w 5 = .sl (List.map RM.cells done) o ∧ Can tk (List.map RM.cells done) o) (l.length) ?_ ?_ ?_ ?_
  · rfl
  · rfl
  · exact ⟨[], l, .full, by simp, rfl, rfl, rfl, trivial⟩
  rintro n w c junk tk r σ ⟨done, rest, o, hl, rfl, hix, hacc, hcan⟩ hr hσ
  simp -implicitDefEqProofs [hix, hacc] at hr hσ
  subst hr hσ
  rcases rest with _ | ⟨a, rest⟩
  rotate_left
  · have ha : el l done.length = some a := by simp [hl]
    have hlt : done.length < l.length := by simp [hl]
    have hmem : a ∈ l := by simp [hl]
    have hw : IntKind.i64.wrap ((done.length : Int) + 1) = done.length + 1 := IntWalk.i64_in _ (by omega)
    obtain ⟨o', tk', happ, hcan'⟩ := can_app hcan 5 (by decide) (by simp) (by simp; omega)
    (repeat (first | refine Wp.seq ?_ | refine Wp.block ?_ | refine Wp.skip ?_ | refine Wp.exit ?_ | refine Wp.ret ?_ | refine thenK_n ?_ | refine thenK_r ?_ | refine thenK_e ?_ | refine blockK_n ?_ | refine blockK_r ?_ | refine blockK_e ?_ | refine blockK_o (by decide) ?_ | (refine Wp.condT ?_ ?_; focus (simp -implicitDefEqProofs [ha, hlt, hw, happ, ihc a hmem] <;> fail)) | (refine Wp.condF ?_ ?_; focus (simp -implicitDefEqProofs [ha, hlt, hw, happ, ihc a hmem] <;> fail)) | refine Wp.reg (by simp -implicitDefEqProofs [ha, hlt, hw, happ, ihc a hmem]; exact ⟨rfl, rfl⟩) ?_ | refine Wp.regA (by simp -implicitDefEqProofs [ha, hlt, hw, happ, ihc a hmem]; exact ⟨rfl, rfl⟩) (by rfl) ?_))
    refine ⟨by simp, ⟨_, by simp -implicitDefEqProofs; rfl⟩, rest.length, by simp, done ++ [a], rest, o', by simp [hl], rfl, by simp, by simp, by simpa using hcan' _⟩
  simp at hl
  subst hl
  (repeat (first | refine Wp.seq ?_ | refine Wp.block ?_ | refine Wp.skip ?_ | refine Wp.exit ?_ | refine Wp.ret ?_ | refine thenK_n ?_ | refine thenK_r ?_ | refine thenK_e ?_ | refine blockK_n ?_ | refine blockK_r ?_ | refine blockK_e ?_ | refine blockK_o (by decide) ?_ | (refine Wp.condT ?_ ?_; focus (simp -implicitDefEqProofs <;> fail)) | (refine Wp.condF ?_ ?_; focus (simp -implicitDefEqProofs <;> fail)) | refine Wp.reg (by simp -implicitDefEqProofs; exact ⟨rfl, rfl⟩) ?_ | refine Wp.regA (by simp -implicitDefEqProofs; exact ⟨rfl, rfl⟩) (by rfl) ?_))
  (apply endK_r; (focus (simp -implicitDefEqProofs [Tryz.f51]; try rfl)); (focus (intro g; simp -implicitDefEqProofs [Tryz.f51])); exact ⟨_, rfl⟩)
theorem node2_c {k : Int} {l : List RM} (hl : ∀ a ∈ l, a.nodes ≤ 1000000000) (hlen : l.length ≤ 1000000000) (g : Nat) (S : St) (o1 : Own) : callT (X.at g) (den X E) S 51 [.int .i64 k, .sl (l.map RM.cells) o1] = some (.agg [.int .i64 k, .int .i64 0, .int .i64 0, .sl (List.map RT.cells []) .dead, .sl (List.map RM.cells l) .dead], S) := by
  simpa using call_up (cf := X.at g) (fn := Tryz.f51) (args' := [.int .i64 k, .sl (l.map RM.cells) o1]) (by kernel_rfl) (by simp) (by simp; try rfl) (node2 k l hl hlen) S

theorem nodeT2 (k : Int) (s : RT) (l : List RM) (hs : s.nodes ≤ 1000000000) (hl : ∀ a ∈ l, a.nodes ≤ 1000000000) (hlen : l.length ≤ 1000000000) : den X E 52 [.int .i64 k, s.enc, .sl (l.map RM.cells) .dead] [] = some ((RM.mk k 0 s l).enc, []) := by
  have c1 := node2_c (E := E) (k := k) hl hlen
  have c2 := copy_c (E := E) (k := s.k) (ts := s.as) (by simpa using hs)
  refine den_w0 (fn := Tryz.f52) (by rfl) (by rfl) (by kernel_rfl) rfl (by rfl) ?_
  simp -implicitDefEqProofs
  (repeat (first | refine Wp.seq ?_ | refine Wp.block ?_ | refine Wp.skip ?_ | refine Wp.exit ?_ | refine Wp.ret ?_ | refine thenK_n ?_ | refine thenK_r ?_ | refine thenK_e ?_ | refine blockK_n ?_ | refine blockK_r ?_ | refine blockK_e ?_ | refine blockK_o (by decide) ?_ | (refine Wp.condT ?_ ?_; focus (simp -implicitDefEqProofs [c1, c2] <;> fail)) | (refine Wp.condF ?_ ?_; focus (simp -implicitDefEqProofs [c1, c2] <;> fail)) | refine Wp.reg (by simp -implicitDefEqProofs [c1, c2]; exact ⟨rfl, rfl⟩) ?_ | refine Wp.regA (by simp -implicitDefEqProofs [c1, c2]; exact ⟨rfl, rfl⟩) (by rfl) ?_))
  (apply endK_r; (focus (simp -implicitDefEqProofs [Tryz.f52]; try rfl)); (focus (intro g; simp -implicitDefEqProofs [Tryz.f52])); exact ⟨_, rfl⟩)
theorem nodeT2_c {k m : Int} {us : List RT} {l : List RM} (hs : (RT.mk m us).nodes ≤ 1000000000) (hl : ∀ a ∈ l, a.nodes ≤ 1000000000) (hlen : l.length ≤ 1000000000) (g : Nat) (S : St) (o1 o2 : Own) : callT (X.at g) (den X E) S 52 [.int .i64 k, .agg [.int .i64 m, .sl (List.map RT.cells us) o1], .sl (l.map RM.cells) o2] = some (.agg [.int .i64 k, .int .i64 0, .int .i64 m, .sl (List.map RT.cells us) .dead, .sl (List.map RM.cells l) .dead], S) := by
  simpa using call_up (cf := X.at g) (fn := Tryz.f52) (args' := [.int .i64 k, .agg [.int .i64 m, .sl (List.map RT.cells us) o1], .sl (l.map RM.cells) o2]) (by kernel_rfl) (by simp) (by simp; try rfl) (nodeT2 k (.mk m us) l hs hl hlen) S

theorem var2 (i : Int) : den X E 50 [.int .i64 i] [] = some ((RM.mk 1 i (.mk 0 []) []).enc, []) := by
  refine den_w0 (fn := Tryz.f50) (by rfl) (by rfl) (by kernel_rfl) rfl (by rfl) ?_
  simp -implicitDefEqProofs
  (repeat (first | refine Wp.seq ?_ | refine Wp.block ?_ | refine Wp.skip ?_ | refine Wp.exit ?_ | refine Wp.ret ?_ | refine thenK_n ?_ | refine thenK_r ?_ | refine thenK_e ?_ | refine blockK_n ?_ | refine blockK_r ?_ | refine blockK_e ?_ | refine blockK_o (by decide) ?_ | (refine Wp.condT ?_ ?_; focus (simp -implicitDefEqProofs <;> fail)) | (refine Wp.condF ?_ ?_; focus (simp -implicitDefEqProofs <;> fail)) | refine Wp.reg (by simp -implicitDefEqProofs; exact ⟨rfl, rfl⟩) ?_ | refine Wp.regA (by simp -implicitDefEqProofs; exact ⟨rfl, rfl⟩) (by rfl) ?_))
  (apply endK_r; (focus (simp -implicitDefEqProofs [Tryz.f50]; try rfl)); (focus (intro g; simp -implicitDefEqProofs [Tryz.f50])); exact ⟨_, rfl⟩)
theorem var2_c {i : Int} (g : Nat) (S : St)  : callT (X.at g) (den X E) S 50 [.int .i64 i] = some (.agg [.int .i64 1, .int .i64 i, .int .i64 0, .sl (List.map RT.cells []) .dead, .sl (List.map RM.cells []) .dead], S) := by
  simpa using call_up (cf := X.at g) (fn := Tryz.f50) (args' := [.int .i64 i]) (by kernel_rfl) (by simp) (by simp; try rfl) (var2 i) S

theorem args2 (k : Int) : den X E 120 [.int .i64 k] [] = some (.int .i64 (RM.arity k), []) := by
  by_cases hk : k = 1 ∨ k = 4 ∨ k = 7 ∨ k = 13 ∨ k = 2 ∨ k = 5 ∨ k = 11 ∨ k = 12 ∨ k = 3 ∨ k = 8 ∨ k = 10 ∨ k = 6 ∨ k = 9
  · rcases hk with rfl | rfl | rfl | rfl | rfl | rfl | rfl | rfl | rfl | rfl | rfl | rfl | rfl
    all_goals
      refine den_w0 (fn := Tryz.f120) (by rfl) (by rfl) (by kernel_rfl) rfl (by rfl) ?_
      simp -implicitDefEqProofs
      (repeat (first | refine Wp.seq ?_ | refine Wp.block ?_ | refine Wp.skip ?_ | refine Wp.exit ?_ | refine Wp.ret ?_ | refine thenK_n ?_ | refine thenK_r ?_ | refine thenK_e ?_ | refine blockK_n ?_ | refine blockK_r ?_ | refine blockK_e ?_ | refine blockK_o (by decide) ?_ | (refine Wp.condT ?_ ?_; focus (simp -implicitDefEqProofs <;> fail)) | (refine Wp.condF ?_ ?_; focus (simp -implicitDefEqProofs <;> fail)) | refine Wp.reg (by simp -implicitDefEqProofs; exact ⟨rfl, rfl⟩) ?_ | refine Wp.regA (by simp -implicitDefEqProofs; exact ⟨rfl, rfl⟩) (by rfl) ?_))
      (apply endK_r; (focus (simp -implicitDefEqProofs [Tryz.f120, RM.arity]; try rfl)); (focus (intro g; simp -implicitDefEqProofs [Tryz.f120, RM.arity])); exact ⟨_, rfl⟩)
  · simp only [not_or] at hk
    obtain ⟨h1, h2, h3, h4, h5, h6, h7, h8, h9, h10, h11, h12, h13⟩ := hk
    refine den_w0 (fn := Tryz.f120) (by rfl) (by rfl) (by kernel_rfl) rfl (by rfl) ?_
    simp -implicitDefEqProofs
    (repeat (first | refine Wp.seq ?_ | refine Wp.block ?_ | refine Wp.skip ?_ | refine Wp.exit ?_ | refine Wp.ret ?_ | refine thenK_n ?_ | refine thenK_r ?_ | refine thenK_e ?_ | refine blockK_n ?_ | refine blockK_r ?_ | refine blockK_e ?_ | refine blockK_o (by decide) ?_ | (refine Wp.condT ?_ ?_; focus (simp -implicitDefEqProofs [h1, h2, h3, h4, h5, h6, h7, h8, h9, h10, h11, h12, h13] <;> fail)) | (refine Wp.condF ?_ ?_; focus (simp -implicitDefEqProofs [h1, h2, h3, h4, h5, h6, h7, h8, h9, h10, h11, h12, h13] <;> fail)) | refine Wp.reg (by simp -implicitDefEqProofs [h1, h2, h3, h4, h5, h6, h7, h8, h9, h10, h11, h12, h13]; exact ⟨rfl, rfl⟩) ?_ | refine Wp.regA (by simp -implicitDefEqProofs [h1, h2, h3, h4, h5, h6, h7, h8, h9, h10, h11, h12, h13]; exact ⟨rfl, rfl⟩) (by rfl) ?_))
    (apply endK_r; (focus (simp -implicitDefEqProofs [Tryz.f120, RM.arity, h1, h2, h3, h4, h5, h6, h7, h8, h9, h10, h11, h12, h13]; try rfl)); (focus (intro g; simp -implicitDefEqProofs [Tryz.f120, RM.arity, h1, h2, h3, h4, h5, h6, h7, h8, h9, h10, h11, h12, h13])); exact ⟨_, rfl⟩)
theorem args2_c (k : Int) (g : Nat) (S : St)  : callT (X.at g) (den X E) S 120 [.int .i64 k] = some (.int .i64 (RM.arity k), S) := by
  simpa using call_up (cf := X.at g) (fn := Tryz.f120) (args' := [.int .i64 k]) (by kernel_rfl) (by simp) (by simp; try rfl) (args2 k) S

theorem zero1 (t : RT) : den X E 121 [t.enc] [] = some (.bool (decide (t.k = 0 ∧ t.as.length = 0)), []) := by
  by_cases h : t.k = 0
  · refine den_w0 (fn := Tryz.f121) (by rfl) (by rfl) (by kernel_rfl) rfl (by rfl) ?_
    simp -implicitDefEqProofs
    (repeat (first | refine Wp.seq ?_ | refine Wp.block ?_ | refine Wp.skip ?_ | refine Wp.exit ?_ | refine Wp.ret ?_ | refine thenK_n ?_ | refine thenK_r ?_ | refine thenK_e ?_ | refine blockK_n ?_ | refine blockK_r ?_ | refine blockK_e ?_ | refine blockK_o (by decide) ?_ | (refine Wp.condT ?_ ?_; focus (simp -implicitDefEqProofs [h] <;> fail)) | (refine Wp.condF ?_ ?_; focus (simp -implicitDefEqProofs [h] <;> fail)) | refine Wp.reg (by simp -implicitDefEqProofs [h]; exact ⟨rfl, rfl⟩) ?_ | refine Wp.regA (by simp -implicitDefEqProofs [h]; exact ⟨rfl, rfl⟩) (by rfl) ?_))
    (apply endK_r; (focus (simp -implicitDefEqProofs [Tryz.f121, h]; try rfl)); (focus (intro g; simp -implicitDefEqProofs [Tryz.f121, h])); exact ⟨_, rfl⟩)
  · refine den_w0 (fn := Tryz.f121) (by rfl) (by rfl) (by kernel_rfl) rfl (by rfl) ?_
    simp -implicitDefEqProofs
    (repeat (first | refine Wp.seq ?_ | refine Wp.block ?_ | refine Wp.skip ?_ | refine Wp.exit ?_ | refine Wp.ret ?_ | refine thenK_n ?_ | refine thenK_r ?_ | refine thenK_e ?_ | refine blockK_n ?_ | refine blockK_r ?_ | refine blockK_e ?_ | refine blockK_o (by decide) ?_ | (refine Wp.condT ?_ ?_; focus (simp -implicitDefEqProofs [h] <;> fail)) | (refine Wp.condF ?_ ?_; focus (simp -implicitDefEqProofs [h] <;> fail)) | refine Wp.reg (by simp -implicitDefEqProofs [h]; exact ⟨rfl, rfl⟩) ?_ | refine Wp.regA (by simp -implicitDefEqProofs [h]; exact ⟨rfl, rfl⟩) (by rfl) ?_))
    (apply endK_r; (focus (simp -implicitDefEqProofs [Tryz.f121, h]; try rfl)); (focus (intro g; simp -implicitDefEqProofs [Tryz.f121, h])); exact ⟨_, rfl⟩)
theorem zero1_c {k : Int} {ts : List RT} (g : Nat) (S : St) (o1 : Own) : callT (X.at g) (den X E) S 121 [.agg [.int .i64 k, .sl (List.map RT.cells ts) o1]] = some (.bool (decide (k = 0 ∧ ts.length = 0)), S) := by
  simpa using call_up (cf := X.at g) (fn := Tryz.f121) (args' := [.agg [.int .i64 k, .sl (List.map RT.cells ts) o1]]) (by kernel_rfl) (by simp) (by simp; try rfl) (zero1 (.mk k ts)) S

end M
end Go.Proofs.YthclcchnodjjpaaGreatDoor
/- ref02.Shape, Check. -/
set_option linter.unusedVariables false
set_option linter.unusedSimpArgs false
set_option maxRecDepth 10000
set_option maxHeartbeats 4000000
namespace Go.Proofs.YthclcchnodjjpaaGreatDoor
namespace M
attribute [local irreducible] Wp thenK blockK endK
variable {E : Oracle}
open T (Ty Tm)
theorem ok2_false {k i : Int} {t : RT} {l : List RM} (h : ¬ ((l.length : Int) = RM.arity k ∧ 0 ≤ i ∧ (k = 1 ∨ i = 0))) : (RM.mk k i t l).ok = false := by
  rw [RM.ok_mk]
  by_cases h1 : (l.length : Int) = RM.arity k
  · by_cases h2 : 0 ≤ i
    · have h3 : ¬ (k = 1 ∨ i = 0) := fun h3 => h ⟨h1, h2, h3⟩
      simp [h3]
    · simp [h2]
  · simp [h1]
theorem ok2_true {k i : Int} {t : RT} {l : List RM} (h : (l.length : Int) = RM.arity k ∧ 0 ≤ i ∧ (k = 1 ∨ i = 0)) : (RM.mk k i t l).ok = (RM.tyOk k t && l.all RM.ok) := by
  rw [RM.ok_mk, decide_eq_true h.1, decide_eq_true h.2.1, decide_eq_true h.2.2]
  simp
theorem shape2 (t : RM) (ht : t.nodes ≤ 1000000000) : den X E 106 [t.enc] [] = some (.bool t.ok, []) := by
  induction t using RM.ind with | h k i t l ih =>
  have ihc : ∀ a ∈ l, ∀ (g : Nat) (S : St) (o1 o2 : Own), callT (X.at g) (den X E) S 106 [.agg [.int .i64 a.k, .int .i64 a.i, .int .i64 a.ty.k, .sl (List.map RT.cells a.ty.as) o1, .sl (List.map RM.cells a.as) o2]] = some (.bool a.ok, S) := by
    intros
    simpa using call_up (cf := X.at _) (fn := Tryz.f106) (args' := [_]) (by kernel_rfl) (by simp) (by simp; try rfl) (ih _ (by assumption) (by have := RM.nodes_mem (k := k) (i := i) (t := t) (l := l) (by assumption); omega)) _
  have hlen := RM.nodes_len k i t l
  have hty := RM.nodes_ty k i t l
  have c1 := check1_c (E := E) (k := t.k) (ts := t.as) (by simp; omega)
  simp at c1
  have c2 := zero1_c (E := E) (k := t.k) (ts := t.as)
  have c3 := zero1_c (E := E) (k := 0) (ts := [])
  simp at c2 c3
  refine den_w0 (fn := Tryz.f106) (by rfl) (by rfl) (by kernel_rfl) rfl (by rfl) ?_
  simp -implicitDefEqProofs
  have hwl : ∀ x : Int, x = RM.arity k ↔ x = RM.arity k := fun _ => Iff.rfl
  by_cases h1 : (l.length : Int) = RM.arity k
  rotate_left
  · have hb := ok2_false (t := t) (l := l) (k := k) (i := i) (fun h => h1 h.1)
    (repeat (first | refine Wp.seq ?_ | refine Wp.block ?_ | refine Wp.skip ?_ | refine Wp.exit ?_ | refine Wp.ret ?_ | refine thenK_n ?_ | refine thenK_r ?_ | refine thenK_e ?_ | refine blockK_n ?_ | refine blockK_r ?_ | refine blockK_e ?_ | refine blockK_o (by decide) ?_ | (refine Wp.condT ?_ ?_; focus (simp -implicitDefEqProofs [args2_c, h1] <;> fail)) | (refine Wp.condF ?_ ?_; focus (simp -implicitDefEqProofs [args2_c, h1] <;> fail)) | refine Wp.reg (by simp -implicitDefEqProofs [args2_c, h1]; exact ⟨rfl, rfl⟩) ?_ | refine Wp.regA (by simp -implicitDefEqProofs [args2_c, h1]; exact ⟨rfl, rfl⟩) (by rfl) ?_))
    (apply endK_r; (focus (simp -implicitDefEqProofs [Tryz.f106, hb]; try rfl)); (focus (intro g; simp -implicitDefEqProofs [Tryz.f106, hb])); exact ⟨_, rfl⟩)
  by_cases h2 : i < 0
  · have hb := ok2_false (t := t) (l := l) (k := k) (i := i) (fun h => by omega)
    (repeat (first | refine Wp.seq ?_ | refine Wp.block ?_ | refine Wp.skip ?_ | refine Wp.exit ?_ | refine Wp.ret ?_ | refine thenK_n ?_ | refine thenK_r ?_ | refine thenK_e ?_ | refine blockK_n ?_ | refine blockK_r ?_ | refine blockK_e ?_ | refine blockK_o (by decide) ?_ | (refine Wp.condT ?_ ?_; focus (simp -implicitDefEqProofs [args2_c, h1, h2] <;> fail)) | (refine Wp.condF ?_ ?_; focus (simp -implicitDefEqProofs [args2_c, h1, h2] <;> fail)) | refine Wp.reg (by simp -implicitDefEqProofs [args2_c, h1, h2]; exact ⟨rfl, rfl⟩) ?_ | refine Wp.regA (by simp -implicitDefEqProofs [args2_c, h1, h2]; exact ⟨rfl, rfl⟩) (by rfl) ?_))
    (apply endK_r; (focus (simp -implicitDefEqProofs [Tryz.f106, hb]; try rfl)); (focus (intro g; simp -implicitDefEqProofs [Tryz.f106, hb])); exact ⟨_, rfl⟩)
  by_cases h3 : k = 1 ∨ i = 0
  rotate_left
  · have hb := ok2_false (t := t) (l := l) (k := k) (i := i) (fun h => h3 h.2.2)
    simp only [not_or] at h3
    (repeat (first | refine Wp.seq ?_ | refine Wp.block ?_ | refine Wp.skip ?_ | refine Wp.exit ?_ | refine Wp.ret ?_ | refine thenK_n ?_ | refine thenK_r ?_ | refine thenK_e ?_ | refine blockK_n ?_ | refine blockK_r ?_ | refine blockK_e ?_ | refine blockK_o (by decide) ?_ | (refine Wp.condT ?_ ?_; focus (simp -implicitDefEqProofs [args2_c, h1, h2, h3.1, h3.2] <;> fail)) | (refine Wp.condF ?_ ?_; focus (simp -implicitDefEqProofs [args2_c, h1, h2, h3.1, h3.2] <;> fail)) | refine Wp.reg (by simp -implicitDefEqProofs [args2_c, h1, h2, h3.1, h3.2]; exact ⟨rfl, rfl⟩) ?_ | refine Wp.regA (by simp -implicitDefEqProofs [args2_c, h1, h2, h3.1, h3.2]; exact ⟨rfl, rfl⟩) (by rfl) ?_))
    (apply endK_r; (focus (simp -implicitDefEqProofs [Tryz.f106, hb]; try rfl)); (focus (intro g; simp -implicitDefEqProofs [Tryz.f106, hb])); exact ⟨_, rfl⟩)
  have hok := ok2_true (t := t) (l := l) (k := k) (i := i) ⟨h1, by omega, h3⟩
  have hk : (k = 1 ∧ 0 ≤ i) ∨ (¬ k = 1 ∧ i = 0) := by omega
  have hki : ∀ h4 : ¬ k = 1, i = 0 := fun h4 => by omega
  by_cases h4 : k = 1
  · subst h4
    have ht2 : RM.tyOk 1 t = decide (t.k = 0 ∧ t.as.length = 0) := by simp [RM.tyOk]
    have har : RM.arity 1 = 0 := rfl
    have hl0 : l = [] := by simp [RM.arity] at h1; exact h1
    subst hl0
    cases hz : decide (t.k = 0 ∧ t.as.length = 0) with
    | false =>
      rw [ht2, hz] at hok
      simp at hz
      have hz' : (decide (t.k = 0) && decide (t.as = [])) = false := by simpa using hz
      (repeat (first | refine Wp.seq ?_ | refine Wp.block ?_ | refine Wp.skip ?_ | refine Wp.exit ?_ | refine Wp.ret ?_ | refine thenK_n ?_ | refine thenK_r ?_ | refine thenK_e ?_ | refine blockK_n ?_ | refine blockK_r ?_ | refine blockK_e ?_ | refine blockK_o (by decide) ?_ | (refine Wp.condT ?_ ?_; focus (simp -implicitDefEqProofs [args2_c, har, h2, c2, hz'] <;> fail)) | (refine Wp.condF ?_ ?_; focus (simp -implicitDefEqProofs [args2_c, har, h2, c2, hz'] <;> fail)) | refine Wp.reg (by simp -implicitDefEqProofs [args2_c, har, h2, c2, hz']; exact ⟨rfl, rfl⟩) ?_ | refine Wp.regA (by simp -implicitDefEqProofs [args2_c, har, h2, c2, hz']; exact ⟨rfl, rfl⟩) (by rfl) ?_))
      (apply endK_r; (focus (simp -implicitDefEqProofs [Tryz.f106, hok]; try rfl)); (focus (intro g; simp -implicitDefEqProofs [Tryz.f106, hok])); exact ⟨_, rfl⟩)
    | true =>
      rw [ht2, hz] at hok
      simp at hz
      have hz' : (decide (t.k = 0) && decide (t.as = [])) = true := by simpa using hz
      (repeat (first | refine Wp.seq ?_ | refine Wp.block ?_ | refine Wp.skip ?_ | refine Wp.exit ?_ | refine Wp.ret ?_ | refine thenK_n ?_ | refine thenK_r ?_ | refine thenK_e ?_ | refine blockK_n ?_ | refine blockK_r ?_ | refine blockK_e ?_ | refine blockK_o (by decide) ?_ | (refine Wp.condT ?_ ?_; focus (simp -implicitDefEqProofs [args2_c, har, h2, c2, hz'] <;> fail)) | (refine Wp.condF ?_ ?_; focus (simp -implicitDefEqProofs [args2_c, har, h2, c2, hz'] <;> fail)) | refine Wp.reg (by simp -implicitDefEqProofs [args2_c, har, h2, c2, hz']; exact ⟨rfl, rfl⟩) ?_ | refine Wp.regA (by simp -implicitDefEqProofs [args2_c, har, h2, c2, hz']; exact ⟨rfl, rfl⟩) (by rfl) ?_))
      refine Wp.loopF [2, 4, 44, 45, 46, 47, 48, 49, 50, 51] [] (fun n w c tk => w 44 = .int .i64 0) (0) ?_ ?_ ?_ ?_
      · rfl
      · rfl
      · exact rfl
      rintro n w c junk tk r σ h44 hr hσ
      simp -implicitDefEqProofs [h44] at hr hσ
      subst hr hσ
      (repeat (first | refine Wp.seq ?_ | refine Wp.block ?_ | refine Wp.skip ?_ | refine Wp.exit ?_ | refine Wp.ret ?_ | refine thenK_n ?_ | refine thenK_r ?_ | refine thenK_e ?_ | refine blockK_n ?_ | refine blockK_r ?_ | refine blockK_e ?_ | refine blockK_o (by decide) ?_ | (refine Wp.condT ?_ ?_; focus (simp -implicitDefEqProofs <;> fail)) | (refine Wp.condF ?_ ?_; focus (simp -implicitDefEqProofs <;> fail)) | refine Wp.reg (by simp -implicitDefEqProofs; exact ⟨rfl, rfl⟩) ?_ | refine Wp.regA (by simp -implicitDefEqProofs; exact ⟨rfl, rfl⟩) (by rfl) ?_))
      (apply endK_r; (focus (simp -implicitDefEqProofs [Tryz.f106, hok]; try rfl)); (focus (intro g; simp -implicitDefEqProofs [Tryz.f106, hok])); exact ⟨_, rfl⟩)
  · have hi0 := hki h4
    subst hi0
    (repeat (first | refine Wp.seq ?_ | refine Wp.skip ?_ | refine Wp.exit ?_ | refine Wp.ret ?_ | refine thenK_n ?_ | refine thenK_r ?_ | refine thenK_e ?_ | refine blockK_n ?_ | refine blockK_r ?_ | refine blockK_e ?_ | refine blockK_o (by decide) ?_ | (refine Wp.condT ?_ ?_; focus (simp -implicitDefEqProofs [args2_c, h1, h4] <;> fail)) | (refine Wp.condF ?_ ?_; focus (simp -implicitDefEqProofs [args2_c, h1, h4] <;> fail)) | refine Wp.reg (by simp -implicitDefEqProofs [args2_c, h1, h4]; exact ⟨rfl, rfl⟩) ?_ | refine Wp.regA (by simp -implicitDefEqProofs [args2_c, h1, h4]; exact ⟨rfl, rfl⟩) (by rfl) ?_))
    refine Wp.cutF [2, 29, 30, 31, 32, 33, 34, 35, 36, 37, 38, 39, 40] [] (fun w c tk => RM.tyOk k t = true ∧ tk = []) ?_ ?_ ?_ ?_
    · rfl
    · rfl
    · by_cases k2 : k = 2
      · subst k2
        by_cases he : t.err = 0
        · (repeat (first | refine Wp.seq ?_ | refine Wp.block ?_ | refine Wp.skip ?_ | refine Wp.exit ?_ | refine Wp.ret ?_ | refine thenK_n ?_ | refine thenK_r ?_ | refine thenK_e ?_ | refine blockK_n ?_ | refine blockK_r ?_ | refine blockK_e ?_ | refine blockK_o (by decide) ?_ | (refine Wp.condT ?_ ?_; focus (simp -implicitDefEqProofs [c1, he] <;> fail)) | (refine Wp.condF ?_ ?_; focus (simp -implicitDefEqProofs [c1, he] <;> fail)) | refine Wp.reg (by simp -implicitDefEqProofs [c1, he]; exact ⟨rfl, rfl⟩) ?_ | refine Wp.regA (by simp -implicitDefEqProofs [c1, he]; exact ⟨rfl, rfl⟩) (by rfl) ?_)); refine ⟨by simp, ⟨_, by simp -implicitDefEqProofs; rfl⟩, by simp [RM.tyOk, he]⟩
        · have hof : (RM.mk 2 0 t l).ok = false := by rw [hok]; simp [RM.tyOk, he]
          (repeat (first | refine Wp.seq ?_ | refine Wp.block ?_ | refine Wp.skip ?_ | refine Wp.exit ?_ | refine Wp.ret ?_ | refine thenK_n ?_ | refine thenK_r ?_ | refine thenK_e ?_ | refine blockK_n ?_ | refine blockK_r ?_ | refine blockK_e ?_ | refine blockK_o (by decide) ?_ | (refine Wp.condT ?_ ?_; focus (simp -implicitDefEqProofs [c1, he] <;> fail)) | (refine Wp.condF ?_ ?_; focus (simp -implicitDefEqProofs [c1, he] <;> fail)) | refine Wp.reg (by simp -implicitDefEqProofs [c1, he]; exact ⟨rfl, rfl⟩) ?_ | refine Wp.regA (by simp -implicitDefEqProofs [c1, he]; exact ⟨rfl, rfl⟩) (by rfl) ?_))
          (apply endK_r; (focus (simp -implicitDefEqProofs [Tryz.f106, hof]; try rfl)); (focus (intro g; simp -implicitDefEqProofs [Tryz.f106, hof])); exact ⟨_, rfl⟩)
      by_cases k6 : k = 6
      · subst k6
        by_cases he : t.err = 0
        · (repeat (first | refine Wp.seq ?_ | refine Wp.block ?_ | refine Wp.skip ?_ | refine Wp.exit ?_ | refine Wp.ret ?_ | refine thenK_n ?_ | refine thenK_r ?_ | refine thenK_e ?_ | refine blockK_n ?_ | refine blockK_r ?_ | refine blockK_e ?_ | refine blockK_o (by decide) ?_ | (refine Wp.condT ?_ ?_; focus (simp -implicitDefEqProofs [c1, he] <;> fail)) | (refine Wp.condF ?_ ?_; focus (simp -implicitDefEqProofs [c1, he] <;> fail)) | refine Wp.reg (by simp -implicitDefEqProofs [c1, he]; exact ⟨rfl, rfl⟩) ?_ | refine Wp.regA (by simp -implicitDefEqProofs [c1, he]; exact ⟨rfl, rfl⟩) (by rfl) ?_)); refine ⟨by simp, ⟨_, by simp -implicitDefEqProofs; rfl⟩, by simp [RM.tyOk, he]⟩
        · have hof : (RM.mk 6 0 t l).ok = false := by rw [hok]; simp [RM.tyOk, he]
          (repeat (first | refine Wp.seq ?_ | refine Wp.block ?_ | refine Wp.skip ?_ | refine Wp.exit ?_ | refine Wp.ret ?_ | refine thenK_n ?_ | refine thenK_r ?_ | refine thenK_e ?_ | refine blockK_n ?_ | refine blockK_r ?_ | refine blockK_e ?_ | refine blockK_o (by decide) ?_ | (refine Wp.condT ?_ ?_; focus (simp -implicitDefEqProofs [c1, he] <;> fail)) | (refine Wp.condF ?_ ?_; focus (simp -implicitDefEqProofs [c1, he] <;> fail)) | refine Wp.reg (by simp -implicitDefEqProofs [c1, he]; exact ⟨rfl, rfl⟩) ?_ | refine Wp.regA (by simp -implicitDefEqProofs [c1, he]; exact ⟨rfl, rfl⟩) (by rfl) ?_))
          (apply endK_r; (focus (simp -implicitDefEqProofs [Tryz.f106, hof]; try rfl)); (focus (intro g; simp -implicitDefEqProofs [Tryz.f106, hof])); exact ⟨_, rfl⟩)
      by_cases k9 : k = 9
      · subst k9
        by_cases he : t.err = 0
        · (repeat (first | refine Wp.seq ?_ | refine Wp.block ?_ | refine Wp.skip ?_ | refine Wp.exit ?_ | refine Wp.ret ?_ | refine thenK_n ?_ | refine thenK_r ?_ | refine thenK_e ?_ | refine blockK_n ?_ | refine blockK_r ?_ | refine blockK_e ?_ | refine blockK_o (by decide) ?_ | (refine Wp.condT ?_ ?_; focus (simp -implicitDefEqProofs [c1, he] <;> fail)) | (refine Wp.condF ?_ ?_; focus (simp -implicitDefEqProofs [c1, he] <;> fail)) | refine Wp.reg (by simp -implicitDefEqProofs [c1, he]; exact ⟨rfl, rfl⟩) ?_ | refine Wp.regA (by simp -implicitDefEqProofs [c1, he]; exact ⟨rfl, rfl⟩) (by rfl) ?_)); refine ⟨by simp, ⟨_, by simp -implicitDefEqProofs; rfl⟩, by simp [RM.tyOk, he]⟩
        · have hof : (RM.mk 9 0 t l).ok = false := by rw [hok]; simp [RM.tyOk, he]
          (repeat (first | refine Wp.seq ?_ | refine Wp.block ?_ | refine Wp.skip ?_ | refine Wp.exit ?_ | refine Wp.ret ?_ | refine thenK_n ?_ | refine thenK_r ?_ | refine thenK_e ?_ | refine blockK_n ?_ | refine blockK_r ?_ | refine blockK_e ?_ | refine blockK_o (by decide) ?_ | (refine Wp.condT ?_ ?_; focus (simp -implicitDefEqProofs [c1, he] <;> fail)) | (refine Wp.condF ?_ ?_; focus (simp -implicitDefEqProofs [c1, he] <;> fail)) | refine Wp.reg (by simp -implicitDefEqProofs [c1, he]; exact ⟨rfl, rfl⟩) ?_ | refine Wp.regA (by simp -implicitDefEqProofs [c1, he]; exact ⟨rfl, rfl⟩) (by rfl) ?_))
          (apply endK_r; (focus (simp -implicitDefEqProofs [Tryz.f106, hof]; try rfl)); (focus (intro g; simp -implicitDefEqProofs [Tryz.f106, hof])); exact ⟨_, rfl⟩)
      cases hz : decide (t.k = 0 ∧ t.as.length = 0) with
      | false =>
        have hof : (RM.mk k 0 t l).ok = false := by rw [hok]; simp only [RM.tyOk, k2, k6, k9, or_self, if_false, hz]; simp
        simp at hz
        have hz' : (decide (t.k = 0) && decide (t.as = [])) = false := by simpa using hz
        (repeat (first | refine Wp.seq ?_ | refine Wp.block ?_ | refine Wp.skip ?_ | refine Wp.exit ?_ | refine Wp.ret ?_ | refine thenK_n ?_ | refine thenK_r ?_ | refine thenK_e ?_ | refine blockK_n ?_ | refine blockK_r ?_ | refine blockK_e ?_ | refine blockK_o (by decide) ?_ | (refine Wp.condT ?_ ?_; focus (simp -implicitDefEqProofs [k2, k6, k9, c2, hz'] <;> fail)) | (refine Wp.condF ?_ ?_; focus (simp -implicitDefEqProofs [k2, k6, k9, c2, hz'] <;> fail)) | refine Wp.reg (by simp -implicitDefEqProofs [k2, k6, k9, c2, hz']; exact ⟨rfl, rfl⟩) ?_ | refine Wp.regA (by simp -implicitDefEqProofs [k2, k6, k9, c2, hz']; exact ⟨rfl, rfl⟩) (by rfl) ?_))
        (apply endK_r; (focus (simp -implicitDefEqProofs [Tryz.f106, hof]; try rfl)); (focus (intro g; simp -implicitDefEqProofs [Tryz.f106, hof])); exact ⟨_, rfl⟩)
      | true =>
        simp at hz
        have hz' : (decide (t.k = 0) && decide (t.as = [])) = true := by simpa using hz
        (repeat (first | refine Wp.seq ?_ | refine Wp.block ?_ | refine Wp.skip ?_ | refine Wp.exit ?_ | refine Wp.ret ?_ | refine thenK_n ?_ | refine thenK_r ?_ | refine thenK_e ?_ | refine blockK_n ?_ | refine blockK_r ?_ | refine blockK_e ?_ | refine blockK_o (by decide) ?_ | (refine Wp.condT ?_ ?_; focus (simp -implicitDefEqProofs [k2, k6, k9, c2, hz'] <;> fail)) | (refine Wp.condF ?_ ?_; focus (simp -implicitDefEqProofs [k2, k6, k9, c2, hz'] <;> fail)) | refine Wp.reg (by simp -implicitDefEqProofs [k2, k6, k9, c2, hz']; exact ⟨rfl, rfl⟩) ?_ | refine Wp.regA (by simp -implicitDefEqProofs [k2, k6, k9, c2, hz']; exact ⟨rfl, rfl⟩) (by rfl) ?_)); refine ⟨by simp, ⟨_, by simp -implicitDefEqProofs; rfl⟩, by simp [RM.tyOk, k2, k6, k9, hz.1, hz.2]⟩
    rintro w c junk tk r σ ⟨htk, rfl⟩ hr hσ
    rw [htk, Bool.true_and] at hok
    simp -implicitDefEqProofs [] at hr hσ
    subst hr hσ
    (repeat (first | refine Wp.seq ?_ | refine Wp.block ?_ | refine Wp.skip ?_ | refine Wp.exit ?_ | refine Wp.ret ?_ | refine thenK_n ?_ | refine thenK_r ?_ | refine thenK_e ?_ | refine blockK_n ?_ | refine blockK_r ?_ | refine blockK_e ?_ | refine blockK_o (by decide) ?_ | (refine Wp.condT ?_ ?_; focus (simp -implicitDefEqProofs <;> fail)) | (refine Wp.condF ?_ ?_; focus (simp -implicitDefEqProofs <;> fail)) | refine Wp.reg (by simp -implicitDefEqProofs; exact ⟨rfl, rfl⟩) ?_ | refine Wp.regA (by simp -implicitDefEqProofs; exact ⟨rfl, rfl⟩) (by rfl) ?_))
    refine Wp.loopF [2, 4, 44, 45, 46, 47, 48, 49, 50, 51] [] (fun n w c tk => ∃ done rest, l = done ++ rest ∧ n = rest.length ∧ w 44 = .int .i64 done.length ∧ done.all RM.ok = true) (l.length) ?_ ?_ ?_ ?_
    · rfl
    · rfl
    · exact ⟨[], l, by simp, rfl, rfl, rfl⟩
    rintro n w c junk tk r σ ⟨done, rest, hl, rfl, hix, hall⟩ hr hσ
    simp -implicitDefEqProofs [hix] at hr hσ
    subst hr hσ
    rcases rest with _ | ⟨a, rest⟩
    rotate_left
    · have ha : el l done.length = some a := by simp [hl]
      have hlt : done.length < l.length := by simp [hl]
      have hmem : a ∈ l := by simp [hl]
      have hw : IntKind.i64.wrap ((done.length : Int) + 1) = done.length + 1 := IntWalk.i64_in _ (by omega)
      cases hP : RM.ok a with
      | false =>
        have hall : l.all RM.ok = false := by rw [hl]; simp [hP]
        (repeat (first | refine Wp.seq ?_ | refine Wp.block ?_ | refine Wp.skip ?_ | refine Wp.exit ?_ | refine Wp.ret ?_ | refine thenK_n ?_ | refine thenK_r ?_ | refine thenK_e ?_ | refine blockK_n ?_ | refine blockK_r ?_ | refine blockK_e ?_ | refine blockK_o (by decide) ?_ | (refine Wp.condT ?_ ?_; focus (simp -implicitDefEqProofs [ha, hlt, hw, hP, ihc a hmem] <;> fail)) | (refine Wp.condF ?_ ?_; focus (simp -implicitDefEqProofs [ha, hlt, hw, hP, ihc a hmem] <;> fail)) | refine Wp.reg (by simp -implicitDefEqProofs [ha, hlt, hw, hP, ihc a hmem]; exact ⟨rfl, rfl⟩) ?_ | refine Wp.regA (by simp -implicitDefEqProofs [ha, hlt, hw, hP, ihc a hmem]; exact ⟨rfl, rfl⟩) (by rfl) ?_))
        (apply endK_r; (focus (simp -implicitDefEqProofs [Tryz.f106, hok, hall]; try rfl)); (focus (intro g; simp -implicitDefEqProofs [Tryz.f106, hok, hall])); exact ⟨_, rfl⟩)
      | true =>
        (repeat (first | refine Wp.seq ?_ | refine Wp.block ?_ | refine Wp.skip ?_ | refine Wp.exit ?_ | refine Wp.ret ?_ | refine thenK_n ?_ | refine thenK_r ?_ | refine thenK_e ?_ | refine blockK_n ?_ | refine blockK_r ?_ | refine blockK_e ?_ | refine blockK_o (by decide) ?_ | (refine Wp.condT ?_ ?_; focus (simp -implicitDefEqProofs [ha, hlt, hw, hP, ihc a hmem] <;> fail)) | (refine Wp.condF ?_ ?_; focus (simp -implicitDefEqProofs [ha, hlt, hw, hP, ihc a hmem] <;> fail)) | refine Wp.reg (by simp -implicitDefEqProofs [ha, hlt, hw, hP, ihc a hmem]; exact ⟨rfl, rfl⟩) ?_ | refine Wp.regA (by simp -implicitDefEqProofs [ha, hlt, hw, hP, ihc a hmem]; exact ⟨rfl, rfl⟩) (by rfl) ?_))
        refine ⟨by simp, ⟨_, by simp -implicitDefEqProofs; rfl⟩, rest.length, by simp, done ++ [a], rest, by simp [hl], rfl, by simp, by simp [hall, hP]⟩
    simp at hl
    subst hl
    (repeat (first | refine Wp.seq ?_ | refine Wp.block ?_ | refine Wp.skip ?_ | refine Wp.exit ?_ | refine Wp.ret ?_ | refine thenK_n ?_ | refine thenK_r ?_ | refine thenK_e ?_ | refine blockK_n ?_ | refine blockK_r ?_ | refine blockK_e ?_ | refine blockK_o (by decide) ?_ | (refine Wp.condT ?_ ?_; focus (simp -implicitDefEqProofs <;> fail)) | (refine Wp.condF ?_ ?_; focus (simp -implicitDefEqProofs <;> fail)) | refine Wp.reg (by simp -implicitDefEqProofs; exact ⟨rfl, rfl⟩) ?_ | refine Wp.regA (by simp -implicitDefEqProofs; exact ⟨rfl, rfl⟩) (by rfl) ?_))
    (apply endK_r; (focus (simp -implicitDefEqProofs [Tryz.f106, hok, hall]; try rfl)); (focus (intro g; simp -implicitDefEqProofs [Tryz.f106, hok, hall])); exact ⟨_, rfl⟩)
theorem shape2_c {k i m : Int} {us : List RT} {ts : List RM} (ht : (RM.mk k i (.mk m us) ts).nodes ≤ 1000000000) (g : Nat) (S : St) (o1 o2 : Own) : callT (X.at g) (den X E) S 106 [.agg [.int .i64 k, .int .i64 i, .int .i64 m, .sl (List.map RT.cells us) o1, .sl (List.map RM.cells ts) o2]] = some (.bool (RM.mk k i (.mk m us) ts).ok, S) := by
  simpa using call_up (cf := X.at g) (fn := Tryz.f106) (args' := [.agg [.int .i64 k, .int .i64 i, .int .i64 m, .sl (List.map RT.cells us) o1, .sl (List.map RM.cells ts) o2]]) (by kernel_rfl) (by simp) (by simp; try rfl) (shape2 (.mk k i (.mk m us) ts) ht) S

theorem check2 (t : RM) (ht : t.nodes ≤ 1000000000) : den X E 74 [t.enc] [] = some (.int .i64 t.err, []) := by
  have c1 := shape2_c (E := E) (k := t.k) (i := t.i) (m := t.ty.k) (us := t.ty.as) (ts := t.as) (by simpa using ht)
  have c2 := count2_c (E := E) (k := t.k) (i := t.i) (m := t.ty.k) (us := t.ty.as) (ts := t.as) (by simpa using ht)
  simp at c1 c2
  cases hok : t.ok with
  | false =>
    have he : t.err = 2 := by simp [RM.err, hok]
    refine den_w0 (fn := Tryz.f74) (by rfl) (by rfl) (by kernel_rfl) rfl (by rfl) ?_
    simp -implicitDefEqProofs
    (repeat (first | refine Wp.seq ?_ | refine Wp.block ?_ | refine Wp.skip ?_ | refine Wp.exit ?_ | refine Wp.ret ?_ | refine thenK_n ?_ | refine thenK_r ?_ | refine thenK_e ?_ | refine blockK_n ?_ | refine blockK_r ?_ | refine blockK_e ?_ | refine blockK_o (by decide) ?_ | (refine Wp.condT ?_ ?_; focus (simp -implicitDefEqProofs [c1, hok] <;> fail)) | (refine Wp.condF ?_ ?_; focus (simp -implicitDefEqProofs [c1, hok] <;> fail)) | refine Wp.reg (by simp -implicitDefEqProofs [c1, hok]; exact ⟨rfl, rfl⟩) ?_ | refine Wp.regA (by simp -implicitDefEqProofs [c1, hok]; exact ⟨rfl, rfl⟩) (by rfl) ?_))
    (apply endK_r; (focus (simp -implicitDefEqProofs [Tryz.f74, he]; try rfl)); (focus (intro g; simp -implicitDefEqProofs [Tryz.f74, he])); exact ⟨_, rfl⟩)
  | true =>
    by_cases hn : t.count ≤ 4096
    · have he : t.err = 0 := by simp [RM.err, hok, hn]
      have hn' : ¬ (4096 : Int) < t.count := by omega
      refine den_w0 (fn := Tryz.f74) (by rfl) (by rfl) (by kernel_rfl) rfl (by rfl) ?_
      simp -implicitDefEqProofs
      (repeat (first | refine Wp.seq ?_ | refine Wp.block ?_ | refine Wp.skip ?_ | refine Wp.exit ?_ | refine Wp.ret ?_ | refine thenK_n ?_ | refine thenK_r ?_ | refine thenK_e ?_ | refine blockK_n ?_ | refine blockK_r ?_ | refine blockK_e ?_ | refine blockK_o (by decide) ?_ | (refine Wp.condT ?_ ?_; focus (simp -implicitDefEqProofs [c1, c2, hok, hn'] <;> fail)) | (refine Wp.condF ?_ ?_; focus (simp -implicitDefEqProofs [c1, c2, hok, hn'] <;> fail)) | refine Wp.reg (by simp -implicitDefEqProofs [c1, c2, hok, hn']; exact ⟨rfl, rfl⟩) ?_ | refine Wp.regA (by simp -implicitDefEqProofs [c1, c2, hok, hn']; exact ⟨rfl, rfl⟩) (by rfl) ?_))
      (apply endK_r; (focus (simp -implicitDefEqProofs [Tryz.f74, he]; try rfl)); (focus (intro g; simp -implicitDefEqProofs [Tryz.f74, he])); exact ⟨_, rfl⟩)
    · have he : t.err = 4 := by simp [RM.err, hok, hn]
      have hn' : (4096 : Int) < t.count := by omega
      refine den_w0 (fn := Tryz.f74) (by rfl) (by rfl) (by kernel_rfl) rfl (by rfl) ?_
      simp -implicitDefEqProofs
      (repeat (first | refine Wp.seq ?_ | refine Wp.block ?_ | refine Wp.skip ?_ | refine Wp.exit ?_ | refine Wp.ret ?_ | refine thenK_n ?_ | refine thenK_r ?_ | refine thenK_e ?_ | refine blockK_n ?_ | refine blockK_r ?_ | refine blockK_e ?_ | refine blockK_o (by decide) ?_ | (refine Wp.condT ?_ ?_; focus (simp -implicitDefEqProofs [c1, c2, hok, hn'] <;> fail)) | (refine Wp.condF ?_ ?_; focus (simp -implicitDefEqProofs [c1, c2, hok, hn'] <;> fail)) | refine Wp.reg (by simp -implicitDefEqProofs [c1, c2, hok, hn']; exact ⟨rfl, rfl⟩) ?_ | refine Wp.regA (by simp -implicitDefEqProofs [c1, c2, hok, hn']; exact ⟨rfl, rfl⟩) (by rfl) ?_))
      (apply endK_r; (focus (simp -implicitDefEqProofs [Tryz.f74, he]; try rfl)); (focus (intro g; simp -implicitDefEqProofs [Tryz.f74, he])); exact ⟨_, rfl⟩)
theorem check2_c {k i m : Int} {us : List RT} {ts : List RM} (ht : (RM.mk k i (.mk m us) ts).nodes ≤ 1000000000) (g : Nat) (S : St) (o1 o2 : Own) : callT (X.at g) (den X E) S 74 [.agg [.int .i64 k, .int .i64 i, .int .i64 m, .sl (List.map RT.cells us) o1, .sl (List.map RM.cells ts) o2]] = some (.int .i64 (RM.mk k i (.mk m us) ts).err, S) := by
  simpa using call_up (cf := X.at g) (fn := Tryz.f74) (args' := [.agg [.int .i64 k, .int .i64 i, .int .i64 m, .sl (List.map RT.cells us) o1, .sl (List.map RM.cells ts) o2]]) (by kernel_rfl) (by simp) (by simp; try rfl) (check2 (.mk k i (.mk m us) ts) ht) S
end M
end Go.Proofs.YthclcchnodjjpaaGreatDoor
