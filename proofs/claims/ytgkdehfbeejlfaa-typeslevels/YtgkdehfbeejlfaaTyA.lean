/- Types that are gone through: tree.OwnType, ref01.Copy, tree.typeNodes, tree.CheckType, types.Check. -/
import Derived.Test.YtgkdehfbeejlfaaCxTry
import Derived.Test.YtgkdehfbeejlfaaRs
set_option linter.unusedVariables false
set_option linter.unusedSimpArgs false
set_option maxRecDepth 10000
namespace Go.Proofs.Ytgkdehfbeejlfaa
namespace M
attribute [local irreducible] Wp thenK blockK endK
variable {E : Oracle}
theorem own (t : RT) (ht : t.nodes ≤ 1000000000) : den X E 36 [t.enc] [] = some (t.enc, []) := by
  induction t using RT.ind with | h k l ih =>
  have ihc : ∀ a ∈ l, ∀ (g : Nat) (S : St) (o1 : Own), callT (X.at g) (den X E) S 36 [.agg [.int .i64 a.k, .sl (List.map RT.cells a.as) o1]] = some (.agg [.int .i64 a.k, .sl (List.map RT.cells a.as) .dead], S) := by
    intros
    simpa using call_up (cf := X.at _) (fn := Try.f36) (args' := [_]) (by kernel_rfl) (by simp) (by simp; try rfl) (ih _ (by assumption) (by have := RT.nodes_mem (k := k) (l := l) (by assumption); omega)) _
  have hlen := RT.nodes_len k l
  refine den_w0 (fn := Try.f36) (by rfl) (by rfl) (by kernel_rfl) rfl (by rfl) ?_
  simp -implicitDefEqProofs
  (repeat (first | refine Wp.seq ?_ | refine Wp.block ?_ | refine Wp.skip ?_ | refine Wp.exit ?_ | refine Wp.ret ?_ | refine thenK_n ?_ | refine thenK_r ?_ | refine thenK_e ?_ | refine blockK_n ?_ | refine blockK_r ?_ | refine blockK_e ?_ | refine blockK_o (by decide) ?_ | (refine Wp.condT ?_ ?_; focus (simp -implicitDefEqProofs <;> fail)) | (refine Wp.condF ?_ ?_; focus (simp -implicitDefEqProofs <;> fail)) | refine Wp.reg (by simp -implicitDefEqProofs; exact ⟨rfl, rfl⟩) ?_ | refine Wp.regA (by simp -implicitDefEqProofs; exact ⟨rfl, rfl⟩) (by rfl) ?_))
  refine Wp.loopF [5, 12, 13, 14, 15, 16, 17, 18, 19, 20, 21, 22, 23] [2] (fun n w c tk => ∃ done rest o, l = done ++ rest ∧ n = rest.length ∧ w 12 = .int .i64 done.length ∧ c 2 = [.int .i64 k, .sl (done.map RT.cells) o] ∧ Can tk (done.map RT.cells) o) (l.length) ?_ ?_ ?_ ?_
  · rfl
  · rfl
  · exact ⟨[], l, .full, by simp, rfl, rfl, rfl, trivial⟩
  rintro n w c junk tk r σ ⟨done, rest, o, hl, rfl, h12, h2, hcan⟩ hr hσ
  simp -implicitDefEqProofs [h12, h2] at hr hσ
  subst hr hσ
  cases rest with
  | nil =>
    simp at hl
    subst hl
    (repeat (first | refine Wp.seq ?_ | refine Wp.block ?_ | refine Wp.skip ?_ | refine Wp.exit ?_ | refine Wp.ret ?_ | refine thenK_n ?_ | refine thenK_r ?_ | refine thenK_e ?_ | refine blockK_n ?_ | refine blockK_r ?_ | refine blockK_e ?_ | refine blockK_o (by decide) ?_ | (refine Wp.condT ?_ ?_; focus (simp -implicitDefEqProofs <;> fail)) | (refine Wp.condF ?_ ?_; focus (simp -implicitDefEqProofs <;> fail)) | refine Wp.reg (by simp -implicitDefEqProofs; exact ⟨rfl, rfl⟩) ?_ | refine Wp.regA (by simp -implicitDefEqProofs; exact ⟨rfl, rfl⟩) (by rfl) ?_))
    (apply endK_r; (focus (simp -implicitDefEqProofs [Try.f36]; try rfl)); (focus (intro g; simp -implicitDefEqProofs [Try.f36])); exact ⟨_, rfl⟩)
  | cons a rest =>
    have ha : el l done.length = some a := by simp [hl]
    have hlt : done.length < l.length := by simp [hl]
    have hi := ihc a (by simp [hl])
    have hw : IntKind.i64.wrap ((done.length : Int) + 1) = done.length + 1 := IntWalk.i64_in _ (by omega)
    obtain ⟨o', tk', happ, hcan'⟩ := can_app hcan 2 (by decide) (by simp) (by simp; omega)
    (repeat (first | refine Wp.seq ?_ | refine Wp.block ?_ | refine Wp.skip ?_ | refine Wp.exit ?_ | refine Wp.ret ?_ | refine thenK_n ?_ | refine thenK_r ?_ | refine thenK_e ?_ | refine blockK_n ?_ | refine blockK_r ?_ | refine blockK_e ?_ | refine blockK_o (by decide) ?_ | (refine Wp.condT ?_ ?_; focus (simp -implicitDefEqProofs [ha, hlt, hi, happ, hw] <;> fail)) | (refine Wp.condF ?_ ?_; focus (simp -implicitDefEqProofs [ha, hlt, hi, happ, hw] <;> fail)) | refine Wp.reg (by simp -implicitDefEqProofs [ha, hlt, hi, happ, hw]; exact ⟨rfl, rfl⟩) ?_ | refine Wp.regA (by simp -implicitDefEqProofs [ha, hlt, hi, happ, hw]; exact ⟨rfl, rfl⟩) (by rfl) ?_))
    refine ⟨by simp, ⟨_, by simp -implicitDefEqProofs; rfl⟩, rest.length, by simp, done ++ [a], rest, o', by simp [hl], rfl, by simp, by simp, by simpa using hcan' _⟩
theorem own_c {k : Int} {ts : List RT} (ht : (RT.mk k ts).nodes ≤ 1000000000) (g : Nat) (S : St) (o1 : Own) : callT (X.at g) (den X E) S 36 [.agg [.int .i64 k, .sl (List.map RT.cells ts) o1]] = some (.agg [.int .i64 k, .sl (List.map RT.cells ts) .dead], S) := by
  simpa using call_up (cf := X.at g) (fn := Try.f36) (args' := [.agg [.int .i64 k, .sl (List.map RT.cells ts) o1]]) (by kernel_rfl) (by simp) (by simp; try rfl) (own (.mk k ts) ht) S

theorem copy (t : RT) (ht : t.nodes ≤ 1000000000) : den X E 42 [t.enc] [] = some (t.enc, []) := by
  induction t using RT.ind with | h k l ih =>
  have ihc : ∀ a ∈ l, ∀ (g : Nat) (S : St) (o1 : Own), callT (X.at g) (den X E) S 42 [.agg [.int .i64 a.k, .sl (List.map RT.cells a.as) o1]] = some (.agg [.int .i64 a.k, .sl (List.map RT.cells a.as) .dead], S) := by
    intros
    simpa using call_up (cf := X.at _) (fn := Try.f42) (args' := [_]) (by kernel_rfl) (by simp) (by simp; try rfl) (ih _ (by assumption) (by have := RT.nodes_mem (k := k) (l := l) (by assumption); omega)) _
  have hlen := RT.nodes_len k l
  refine den_w0 (fn := Try.f42) (by rfl) (by rfl) (by kernel_rfl) rfl (by rfl) ?_
  simp -implicitDefEqProofs
  (repeat (first | refine Wp.seq ?_ | refine Wp.block ?_ | refine Wp.skip ?_ | refine Wp.exit ?_ | refine Wp.ret ?_ | refine thenK_n ?_ | refine thenK_r ?_ | refine thenK_e ?_ | refine blockK_n ?_ | refine blockK_r ?_ | refine blockK_e ?_ | refine blockK_o (by decide) ?_ | (refine Wp.condT ?_ ?_; focus (simp -implicitDefEqProofs <;> fail)) | (refine Wp.condF ?_ ?_; focus (simp -implicitDefEqProofs <;> fail)) | refine Wp.reg (by simp -implicitDefEqProofs; exact ⟨rfl, rfl⟩) ?_ | refine Wp.regA (by simp -implicitDefEqProofs; exact ⟨rfl, rfl⟩) (by rfl) ?_))
  refine Wp.loopF [3, 5, 9, 10, 11, 12, 13, 14, 15, 16, 17, 18] [] (fun n w c tk => ∃ done rest o, l = done ++ rest ∧ n = rest.length ∧ w 9 = .int .i64 done.length ∧ w 3 = .sl (done.map RT.cells) o ∧ Can tk (done.map RT.cells) o) (l.length) ?_ ?_ ?_ ?_
  · rfl
  · rfl
  · exact ⟨[], l, .full, by simp, rfl, rfl, rfl, trivial⟩
  rintro n w c junk tk r σ ⟨done, rest, o, hl, rfl, h9, h3, hcan⟩ hr hσ
  simp -implicitDefEqProofs [h9, h3] at hr hσ
  subst hr hσ
  cases rest with
  | nil =>
    simp at hl
    subst hl
    (repeat (first | refine Wp.seq ?_ | refine Wp.block ?_ | refine Wp.skip ?_ | refine Wp.exit ?_ | refine Wp.ret ?_ | refine thenK_n ?_ | refine thenK_r ?_ | refine thenK_e ?_ | refine blockK_n ?_ | refine blockK_r ?_ | refine blockK_e ?_ | refine blockK_o (by decide) ?_ | (refine Wp.condT ?_ ?_; focus (simp -implicitDefEqProofs <;> fail)) | (refine Wp.condF ?_ ?_; focus (simp -implicitDefEqProofs <;> fail)) | refine Wp.reg (by simp -implicitDefEqProofs; exact ⟨rfl, rfl⟩) ?_ | refine Wp.regA (by simp -implicitDefEqProofs; exact ⟨rfl, rfl⟩) (by rfl) ?_))
    (apply endK_r; (focus (simp -implicitDefEqProofs [Try.f42]; try rfl)); (focus (intro g; simp -implicitDefEqProofs [Try.f42])); exact ⟨_, rfl⟩)
  | cons a rest =>
    have ha : el l done.length = some a := by simp [hl]
    have hlt : done.length < l.length := by simp [hl]
    have hi := ihc a (by simp [hl])
    have hw : IntKind.i64.wrap ((done.length : Int) + 1) = done.length + 1 := IntWalk.i64_in _ (by omega)
    obtain ⟨o', tk', happ, hcan'⟩ := can_app hcan 2 (by decide) (by simp) (by simp; omega)
    (repeat (first | refine Wp.seq ?_ | refine Wp.block ?_ | refine Wp.skip ?_ | refine Wp.exit ?_ | refine Wp.ret ?_ | refine thenK_n ?_ | refine thenK_r ?_ | refine thenK_e ?_ | refine blockK_n ?_ | refine blockK_r ?_ | refine blockK_e ?_ | refine blockK_o (by decide) ?_ | (refine Wp.condT ?_ ?_; focus (simp -implicitDefEqProofs [ha, hlt, hi, happ, hw] <;> fail)) | (refine Wp.condF ?_ ?_; focus (simp -implicitDefEqProofs [ha, hlt, hi, happ, hw] <;> fail)) | refine Wp.reg (by simp -implicitDefEqProofs [ha, hlt, hi, happ, hw]; exact ⟨rfl, rfl⟩) ?_ | refine Wp.regA (by simp -implicitDefEqProofs [ha, hlt, hi, happ, hw]; exact ⟨rfl, rfl⟩) (by rfl) ?_))
    refine ⟨by simp, ⟨_, by simp -implicitDefEqProofs; rfl⟩, rest.length, by simp, done ++ [a], rest, o', by simp [hl], rfl, by simp, by simp, by simpa using hcan' _⟩
theorem copy_c {k : Int} {ts : List RT} (ht : (RT.mk k ts).nodes ≤ 1000000000) (g : Nat) (S : St) (o1 : Own) : callT (X.at g) (den X E) S 42 [.agg [.int .i64 k, .sl (List.map RT.cells ts) o1]] = some (.agg [.int .i64 k, .sl (List.map RT.cells ts) .dead], S) := by
  simpa using call_up (cf := X.at g) (fn := Try.f42) (args' := [.agg [.int .i64 k, .sl (List.map RT.cells ts) o1]]) (by kernel_rfl) (by simp) (by simp; try rfl) (copy (.mk k ts) ht) S

theorem typeNodes (t : RT) (ht : t.nodes ≤ 1000000000) : den X E 47 [t.enc] [] = some (.tup [.int .i64 (if t.ok then t.nodes else 0), .bool t.ok], []) := by
  induction t using RT.ind with | h k l ih =>
  have ihc : ∀ a ∈ l, ∀ (g : Nat) (S : St) (o1 : Own), callT (X.at g) (den X E) S 47 [.agg [.int .i64 a.k, .sl (List.map RT.cells a.as) o1]] = some (.tup [.int .i64 (if a.ok then a.nodes else 0), .bool a.ok], S) := by
    intros
    simpa using call_up (cf := X.at _) (fn := Try.f47) (args' := [_]) (by kernel_rfl) (by simp) (by simp; try rfl) (ih _ (by assumption) (by have := RT.nodes_mem (k := k) (l := l) (by assumption); omega)) _
  have hlen := RT.nodes_len k l
  have hnod := RT.nodes_mk k l
  refine den_w0 (fn := Try.f47) (by rfl) (by rfl) (by kernel_rfl) rfl (by rfl) ?_
  simp -implicitDefEqProofs
  (repeat (first | refine Wp.seq ?_ | refine Wp.skip ?_ | refine Wp.exit ?_ | refine Wp.ret ?_ | refine thenK_n ?_ | refine thenK_r ?_ | refine thenK_e ?_ | refine blockK_n ?_ | refine blockK_r ?_ | refine blockK_e ?_ | refine blockK_o (by decide) ?_ | (refine Wp.condT ?_ ?_; focus (simp -implicitDefEqProofs <;> fail)) | (refine Wp.condF ?_ ?_; focus (simp -implicitDefEqProofs <;> fail)) | refine Wp.reg (by simp -implicitDefEqProofs; exact ⟨rfl, rfl⟩) ?_ | refine Wp.regA (by simp -implicitDefEqProofs; exact ⟨rfl, rfl⟩) (by rfl) ?_))
  refine Wp.cutF [2, 3, 4, 12, 13, 14, 15, 16, 17, 18] [] (fun w c tk => (k = 1 ∨ k = 2 ∨ k = 5 ∨ k = 3 ∨ k = 4) ∧ w 4 = .int .i64 (RT.want k) ∧ tk = []) ?_ ?_ ?_ ?_
  · rfl
  · rfl
  · by_cases h1 : k = 1
    · subst h1; (repeat (first | refine Wp.seq ?_ | refine Wp.block ?_ | refine Wp.skip ?_ | refine Wp.exit ?_ | refine Wp.ret ?_ | refine thenK_n ?_ | refine thenK_r ?_ | refine thenK_e ?_ | refine blockK_n ?_ | refine blockK_r ?_ | refine blockK_e ?_ | refine blockK_o (by decide) ?_ | (refine Wp.condT ?_ ?_; focus (simp -implicitDefEqProofs <;> fail)) | (refine Wp.condF ?_ ?_; focus (simp -implicitDefEqProofs <;> fail)) | refine Wp.reg (by simp -implicitDefEqProofs; exact ⟨rfl, rfl⟩) ?_ | refine Wp.regA (by simp -implicitDefEqProofs; exact ⟨rfl, rfl⟩) (by rfl) ?_)); refine ⟨by simp, ⟨_, by simp -implicitDefEqProofs; rfl⟩, by simp [RT.want]⟩
    by_cases h2 : k = 2
    · subst h2; (repeat (first | refine Wp.seq ?_ | refine Wp.block ?_ | refine Wp.skip ?_ | refine Wp.exit ?_ | refine Wp.ret ?_ | refine thenK_n ?_ | refine thenK_r ?_ | refine thenK_e ?_ | refine blockK_n ?_ | refine blockK_r ?_ | refine blockK_e ?_ | refine blockK_o (by decide) ?_ | (refine Wp.condT ?_ ?_; focus (simp -implicitDefEqProofs <;> fail)) | (refine Wp.condF ?_ ?_; focus (simp -implicitDefEqProofs <;> fail)) | refine Wp.reg (by simp -implicitDefEqProofs; exact ⟨rfl, rfl⟩) ?_ | refine Wp.regA (by simp -implicitDefEqProofs; exact ⟨rfl, rfl⟩) (by rfl) ?_)); refine ⟨by simp, ⟨_, by simp -implicitDefEqProofs; rfl⟩, by simp [RT.want]⟩
    by_cases h5 : k = 5
    · subst h5; (repeat (first | refine Wp.seq ?_ | refine Wp.block ?_ | refine Wp.skip ?_ | refine Wp.exit ?_ | refine Wp.ret ?_ | refine thenK_n ?_ | refine thenK_r ?_ | refine thenK_e ?_ | refine blockK_n ?_ | refine blockK_r ?_ | refine blockK_e ?_ | refine blockK_o (by decide) ?_ | (refine Wp.condT ?_ ?_; focus (simp -implicitDefEqProofs <;> fail)) | (refine Wp.condF ?_ ?_; focus (simp -implicitDefEqProofs <;> fail)) | refine Wp.reg (by simp -implicitDefEqProofs; exact ⟨rfl, rfl⟩) ?_ | refine Wp.regA (by simp -implicitDefEqProofs; exact ⟨rfl, rfl⟩) (by rfl) ?_)); refine ⟨by simp, ⟨_, by simp -implicitDefEqProofs; rfl⟩, by simp [RT.want]⟩
    by_cases h3 : k = 3
    · subst h3; (repeat (first | refine Wp.seq ?_ | refine Wp.block ?_ | refine Wp.skip ?_ | refine Wp.exit ?_ | refine Wp.ret ?_ | refine thenK_n ?_ | refine thenK_r ?_ | refine thenK_e ?_ | refine blockK_n ?_ | refine blockK_r ?_ | refine blockK_e ?_ | refine blockK_o (by decide) ?_ | (refine Wp.condT ?_ ?_; focus (simp -implicitDefEqProofs <;> fail)) | (refine Wp.condF ?_ ?_; focus (simp -implicitDefEqProofs <;> fail)) | refine Wp.reg (by simp -implicitDefEqProofs; exact ⟨rfl, rfl⟩) ?_ | refine Wp.regA (by simp -implicitDefEqProofs; exact ⟨rfl, rfl⟩) (by rfl) ?_)); refine ⟨by simp, ⟨_, by simp -implicitDefEqProofs; rfl⟩, by simp [RT.want]⟩
    by_cases h4 : k = 4
    · subst h4; (repeat (first | refine Wp.seq ?_ | refine Wp.block ?_ | refine Wp.skip ?_ | refine Wp.exit ?_ | refine Wp.ret ?_ | refine thenK_n ?_ | refine thenK_r ?_ | refine thenK_e ?_ | refine blockK_n ?_ | refine blockK_r ?_ | refine blockK_e ?_ | refine blockK_o (by decide) ?_ | (refine Wp.condT ?_ ?_; focus (simp -implicitDefEqProofs <;> fail)) | (refine Wp.condF ?_ ?_; focus (simp -implicitDefEqProofs <;> fail)) | refine Wp.reg (by simp -implicitDefEqProofs; exact ⟨rfl, rfl⟩) ?_ | refine Wp.regA (by simp -implicitDefEqProofs; exact ⟨rfl, rfl⟩) (by rfl) ?_)); refine ⟨by simp, ⟨_, by simp -implicitDefEqProofs; rfl⟩, by simp [RT.want]⟩
    have hb := RT.ok_bad (k := k) (l := l) (by omega)
    (repeat (first | refine Wp.seq ?_ | refine Wp.block ?_ | refine Wp.skip ?_ | refine Wp.exit ?_ | refine Wp.ret ?_ | refine thenK_n ?_ | refine thenK_r ?_ | refine thenK_e ?_ | refine blockK_n ?_ | refine blockK_r ?_ | refine blockK_e ?_ | refine blockK_o (by decide) ?_ | (refine Wp.condT ?_ ?_; focus (simp -implicitDefEqProofs [h1, h2, h3, h4, h5] <;> fail)) | (refine Wp.condF ?_ ?_; focus (simp -implicitDefEqProofs [h1, h2, h3, h4, h5] <;> fail)) | refine Wp.reg (by simp -implicitDefEqProofs [h1, h2, h3, h4, h5]; exact ⟨rfl, rfl⟩) ?_ | refine Wp.regA (by simp -implicitDefEqProofs [h1, h2, h3, h4, h5]; exact ⟨rfl, rfl⟩) (by rfl) ?_))
    (apply endK_r; (focus (simp -implicitDefEqProofs [Try.f47, hb]; try rfl)); (focus (intro g; simp -implicitDefEqProofs [Try.f47, hb])); exact ⟨_, rfl⟩)
  rintro w c junk tk r σ ⟨hk, h4, rfl⟩ hr hσ
  simp -implicitDefEqProofs [h4] at hr hσ
  subst hr hσ
  by_cases hlw : l.length = RT.want k
  rotate_left
  · have hb := RT.ok_len hk hlw
    have hlw' : ¬ ((l.length : Int) = RT.want k) := by omega
    (repeat (first | refine Wp.seq ?_ | refine Wp.block ?_ | refine Wp.skip ?_ | refine Wp.exit ?_ | refine Wp.ret ?_ | refine thenK_n ?_ | refine thenK_r ?_ | refine thenK_e ?_ | refine blockK_n ?_ | refine blockK_r ?_ | refine blockK_e ?_ | refine blockK_o (by decide) ?_ | (refine Wp.condT ?_ ?_; focus (simp -implicitDefEqProofs [hlw'] <;> fail)) | (refine Wp.condF ?_ ?_; focus (simp -implicitDefEqProofs [hlw'] <;> fail)) | refine Wp.reg (by simp -implicitDefEqProofs [hlw']; exact ⟨rfl, rfl⟩) ?_ | refine Wp.regA (by simp -implicitDefEqProofs [hlw']; exact ⟨rfl, rfl⟩) (by rfl) ?_))
    (apply endK_r; (focus (simp -implicitDefEqProofs [Try.f47, hb]; try rfl)); (focus (intro g; simp -implicitDefEqProofs [Try.f47, hb])); exact ⟨_, rfl⟩)
  have hok := RT.ok_all hk hlw
  have hlw' : (l.length : Int) = RT.want k := by omega
  (repeat (first | refine Wp.seq ?_ | refine Wp.block ?_ | refine Wp.skip ?_ | refine Wp.exit ?_ | refine Wp.ret ?_ | refine thenK_n ?_ | refine thenK_r ?_ | refine thenK_e ?_ | refine blockK_n ?_ | refine blockK_r ?_ | refine blockK_e ?_ | refine blockK_o (by decide) ?_ | (refine Wp.condT ?_ ?_; focus (simp -implicitDefEqProofs [hlw'] <;> fail)) | (refine Wp.condF ?_ ?_; focus (simp -implicitDefEqProofs [hlw'] <;> fail)) | refine Wp.reg (by simp -implicitDefEqProofs [hlw']; exact ⟨rfl, rfl⟩) ?_ | refine Wp.regA (by simp -implicitDefEqProofs [hlw']; exact ⟨rfl, rfl⟩) (by rfl) ?_))
  refine Wp.loopF [2, 3, 5, 7, 8, 9, 27, 28, 29, 30, 31, 32, 33, 34, 35, 36, 37, 38, 39, 40, 41] [] (fun n w c tk => ∃ done rest, l = done ++ rest ∧ n = rest.length ∧ w 27 = .int .i64 done.length ∧ w 5 = .int .i64 (1 + (done.map RT.nodes).sum : Nat) ∧ done.all RT.ok = true) (l.length) ?_ ?_ ?_ ?_
  · rfl
  · rfl
  · exact ⟨[], l, by simp, rfl, rfl, rfl, rfl⟩
  rintro n w c junk tk r σ ⟨done, rest, hl, rfl, h27, h5, hall⟩ hr hσ
  simp -implicitDefEqProofs [h27, h5] at hr hσ
  subst hr hσ
  cases rest with
  | nil =>
    simp at hl
    subst hl
    rw [hall] at hok
    (repeat (first | refine Wp.seq ?_ | refine Wp.block ?_ | refine Wp.skip ?_ | refine Wp.exit ?_ | refine Wp.ret ?_ | refine thenK_n ?_ | refine thenK_r ?_ | refine thenK_e ?_ | refine blockK_n ?_ | refine blockK_r ?_ | refine blockK_e ?_ | refine blockK_o (by decide) ?_ | (refine Wp.condT ?_ ?_; focus (simp -implicitDefEqProofs [hlw] <;> fail)) | (refine Wp.condF ?_ ?_; focus (simp -implicitDefEqProofs [hlw] <;> fail)) | refine Wp.reg (by simp -implicitDefEqProofs [hlw]; exact ⟨rfl, rfl⟩) ?_ | refine Wp.regA (by simp -implicitDefEqProofs [hlw]; exact ⟨rfl, rfl⟩) (by rfl) ?_))
    (apply endK_r; (focus (simp -implicitDefEqProofs [Try.f47, hok, hnod]; try rfl)); (focus (intro g; simp -implicitDefEqProofs [Try.f47, hok, hnod])); exact ⟨_, rfl⟩)
  | cons a rest =>
    have ha : el l done.length = some a := by simp [hl]
    have hlt : done.length < RT.want k := by rw [← hlw]; simp [hl]
    have hi := ihc a (by simp [hl])
    have hw : IntKind.i64.wrap ((done.length : Int) + 1) = done.length + 1 := IntWalk.i64_in _ (by omega)
    cases hoka : a.ok with
    | false =>
      have hof : (RT.mk k l).ok = false := by rw [hok, hl]; simp [hoka]
      (repeat (first | refine Wp.seq ?_ | refine Wp.block ?_ | refine Wp.skip ?_ | refine Wp.exit ?_ | refine Wp.ret ?_ | refine thenK_n ?_ | refine thenK_r ?_ | refine thenK_e ?_ | refine blockK_n ?_ | refine blockK_r ?_ | refine blockK_e ?_ | refine blockK_o (by decide) ?_ | (refine Wp.condT ?_ ?_; focus (simp -implicitDefEqProofs [ha, hlt, hi, hw, hoka] <;> fail)) | (refine Wp.condF ?_ ?_; focus (simp -implicitDefEqProofs [ha, hlt, hi, hw, hoka] <;> fail)) | refine Wp.reg (by simp -implicitDefEqProofs [ha, hlt, hi, hw, hoka]; exact ⟨rfl, rfl⟩) ?_ | refine Wp.regA (by simp -implicitDefEqProofs [ha, hlt, hi, hw, hoka]; exact ⟨rfl, rfl⟩) (by rfl) ?_))
      (apply endK_r; (focus (simp -implicitDefEqProofs [Try.f47, hof]; try rfl)); (focus (intro g; simp -implicitDefEqProofs [Try.f47, hof])); exact ⟨_, rfl⟩)
    | true =>
      have hs : (List.map RT.nodes l).sum = (done.map RT.nodes).sum + a.nodes + (rest.map RT.nodes).sum := by rw [hl]; simp; omega
      have hw5 : IntKind.i64.wrap ((1 : Int) + (done.map RT.nodes).sum + a.nodes) = 1 + (done.map RT.nodes).sum + a.nodes := IntWalk.i64_in _ (by omega)
      (repeat (first | refine Wp.seq ?_ | refine Wp.block ?_ | refine Wp.skip ?_ | refine Wp.exit ?_ | refine Wp.ret ?_ | refine thenK_n ?_ | refine thenK_r ?_ | refine thenK_e ?_ | refine blockK_n ?_ | refine blockK_r ?_ | refine blockK_e ?_ | refine blockK_o (by decide) ?_ | (refine Wp.condT ?_ ?_; focus (simp -implicitDefEqProofs [ha, hlt, hi, hw, hoka, hw5] <;> fail)) | (refine Wp.condF ?_ ?_; focus (simp -implicitDefEqProofs [ha, hlt, hi, hw, hoka, hw5] <;> fail)) | refine Wp.reg (by simp -implicitDefEqProofs [ha, hlt, hi, hw, hoka, hw5]; exact ⟨rfl, rfl⟩) ?_ | refine Wp.regA (by simp -implicitDefEqProofs [ha, hlt, hi, hw, hoka, hw5]; exact ⟨rfl, rfl⟩) (by rfl) ?_))
      refine ⟨by simp, ⟨_, by simp -implicitDefEqProofs; rfl⟩, rest.length, by simp, done ++ [a], rest, by simp [hl], rfl, by simp, by simp; omega, by simp [hall, hoka]⟩
theorem typeNodes_c {k : Int} {ts : List RT} (ht : (RT.mk k ts).nodes ≤ 1000000000) (g : Nat) (S : St) (o1 : Own) : callT (X.at g) (den X E) S 47 [.agg [.int .i64 k, .sl (List.map RT.cells ts) o1]] = some (.tup [.int .i64 (if (RT.mk k ts).ok then (RT.mk k ts).nodes else 0), .bool (RT.mk k ts).ok], S) := by
  simpa using call_up (cf := X.at g) (fn := Try.f47) (args' := [.agg [.int .i64 k, .sl (List.map RT.cells ts) o1]]) (by kernel_rfl) (by simp) (by simp; try rfl) (typeNodes (.mk k ts) ht) S

theorem checkType (t : RT) (ht : t.nodes ≤ 1000000000) : den X E 35 [t.enc] [] = some (.tup [.int .i64 (if t.err = 0 then t.nodes else 0), .int .i64 t.err], []) := by
  have hc := typeNodes_c (E := E) (k := t.k) (ts := t.as) (by simpa using ht)
  simp at hc
  cases hok : t.ok with
  | false =>
    have he : t.err = 2 := by simp [RT.err, hok]
    refine den_w0 (fn := Try.f35) (by rfl) (by rfl) (by kernel_rfl) rfl (by rfl) ?_
    simp -implicitDefEqProofs
    (repeat (first | refine Wp.seq ?_ | refine Wp.block ?_ | refine Wp.skip ?_ | refine Wp.exit ?_ | refine Wp.ret ?_ | refine thenK_n ?_ | refine thenK_r ?_ | refine thenK_e ?_ | refine blockK_n ?_ | refine blockK_r ?_ | refine blockK_e ?_ | refine blockK_o (by decide) ?_ | (refine Wp.condT ?_ ?_; focus (simp -implicitDefEqProofs [hc, hok] <;> fail)) | (refine Wp.condF ?_ ?_; focus (simp -implicitDefEqProofs [hc, hok] <;> fail)) | refine Wp.reg (by simp -implicitDefEqProofs [hc, hok]; exact ⟨rfl, rfl⟩) ?_ | refine Wp.regA (by simp -implicitDefEqProofs [hc, hok]; exact ⟨rfl, rfl⟩) (by rfl) ?_))
    (apply endK_r; (focus (simp -implicitDefEqProofs [Try.f35, he]; try rfl)); (focus (intro g; simp -implicitDefEqProofs [Try.f35, he])); exact ⟨_, rfl⟩)
  | true =>
    by_cases hn : t.nodes ≤ 64
    · have he : t.err = 0 := by simp [RT.err, hok, hn]
      have hn' : ¬ (64 : Int) < t.nodes := by omega
      refine den_w0 (fn := Try.f35) (by rfl) (by rfl) (by kernel_rfl) rfl (by rfl) ?_
      simp -implicitDefEqProofs
      (repeat (first | refine Wp.seq ?_ | refine Wp.block ?_ | refine Wp.skip ?_ | refine Wp.exit ?_ | refine Wp.ret ?_ | refine thenK_n ?_ | refine thenK_r ?_ | refine thenK_e ?_ | refine blockK_n ?_ | refine blockK_r ?_ | refine blockK_e ?_ | refine blockK_o (by decide) ?_ | (refine Wp.condT ?_ ?_; focus (simp -implicitDefEqProofs [hc, hok, hn'] <;> fail)) | (refine Wp.condF ?_ ?_; focus (simp -implicitDefEqProofs [hc, hok, hn'] <;> fail)) | refine Wp.reg (by simp -implicitDefEqProofs [hc, hok, hn']; exact ⟨rfl, rfl⟩) ?_ | refine Wp.regA (by simp -implicitDefEqProofs [hc, hok, hn']; exact ⟨rfl, rfl⟩) (by rfl) ?_))
      (apply endK_r; (focus (simp -implicitDefEqProofs [Try.f35, he]; try rfl)); (focus (intro g; simp -implicitDefEqProofs [Try.f35, he])); exact ⟨_, rfl⟩)
    · have he : t.err = 4 := by simp [RT.err, hok, hn]
      have hn' : (64 : Int) < t.nodes := by omega
      refine den_w0 (fn := Try.f35) (by rfl) (by rfl) (by kernel_rfl) rfl (by rfl) ?_
      simp -implicitDefEqProofs
      (repeat (first | refine Wp.seq ?_ | refine Wp.block ?_ | refine Wp.skip ?_ | refine Wp.exit ?_ | refine Wp.ret ?_ | refine thenK_n ?_ | refine thenK_r ?_ | refine thenK_e ?_ | refine blockK_n ?_ | refine blockK_r ?_ | refine blockK_e ?_ | refine blockK_o (by decide) ?_ | (refine Wp.condT ?_ ?_; focus (simp -implicitDefEqProofs [hc, hok, hn'] <;> fail)) | (refine Wp.condF ?_ ?_; focus (simp -implicitDefEqProofs [hc, hok, hn'] <;> fail)) | refine Wp.reg (by simp -implicitDefEqProofs [hc, hok, hn']; exact ⟨rfl, rfl⟩) ?_ | refine Wp.regA (by simp -implicitDefEqProofs [hc, hok, hn']; exact ⟨rfl, rfl⟩) (by rfl) ?_))
      (apply endK_r; (focus (simp -implicitDefEqProofs [Try.f35, he]; try rfl)); (focus (intro g; simp -implicitDefEqProofs [Try.f35, he])); exact ⟨_, rfl⟩)
theorem checkType_c {k : Int} {ts : List RT} (ht : (RT.mk k ts).nodes ≤ 1000000000) (g : Nat) (S : St) (o1 : Own) : callT (X.at g) (den X E) S 35 [.agg [.int .i64 k, .sl (List.map RT.cells ts) o1]] = some (.tup [.int .i64 (if (RT.mk k ts).err = 0 then (RT.mk k ts).nodes else 0), .int .i64 (RT.mk k ts).err], S) := by
  simpa using call_up (cf := X.at g) (fn := Try.f35) (args' := [.agg [.int .i64 k, .sl (List.map RT.cells ts) o1]]) (by kernel_rfl) (by simp) (by simp; try rfl) (checkType (.mk k ts) ht) S

theorem typesCheck (t : RT) (ht : t.nodes ≤ 1000000000) : den X E 22 [t.enc] [] = some (.int .i64 t.err, []) := by
  have hc := checkType_c (E := E) (k := t.k) (ts := t.as) (by simpa using ht)
  simp at hc
  refine den_w0 (fn := Try.f22) (by rfl) (by rfl) (by kernel_rfl) rfl (by rfl) ?_
  simp -implicitDefEqProofs
  (repeat (first | refine Wp.seq ?_ | refine Wp.block ?_ | refine Wp.skip ?_ | refine Wp.exit ?_ | refine Wp.ret ?_ | refine thenK_n ?_ | refine thenK_r ?_ | refine thenK_e ?_ | refine blockK_n ?_ | refine blockK_r ?_ | refine blockK_e ?_ | refine blockK_o (by decide) ?_ | (refine Wp.condT ?_ ?_; focus (simp -implicitDefEqProofs [hc] <;> fail)) | (refine Wp.condF ?_ ?_; focus (simp -implicitDefEqProofs [hc] <;> fail)) | refine Wp.reg (by simp -implicitDefEqProofs [hc]; exact ⟨rfl, rfl⟩) ?_ | refine Wp.regA (by simp -implicitDefEqProofs [hc]; exact ⟨rfl, rfl⟩) (by rfl) ?_))
  (apply endK_r; (focus (simp -implicitDefEqProofs [Try.f22]; try rfl)); (focus (intro g; simp -implicitDefEqProofs [Try.f22])); exact ⟨_, rfl⟩)
theorem typesCheck_c {k : Int} {ts : List RT} (ht : (RT.mk k ts).nodes ≤ 1000000000) (g : Nat) (S : St) (o1 : Own) : callT (X.at g) (den X E) S 22 [.agg [.int .i64 k, .sl (List.map RT.cells ts) o1]] = some (.int .i64 (RT.mk k ts).err, S) := by
  simpa using call_up (cf := X.at g) (fn := Try.f22) (args' := [.agg [.int .i64 k, .sl (List.map RT.cells ts) o1]]) (by kernel_rfl) (by simp) (by simp; try rfl) (typesCheck (.mk k ts) ht) S
end M
end Go.Proofs.Ytgkdehfbeejlfaa
