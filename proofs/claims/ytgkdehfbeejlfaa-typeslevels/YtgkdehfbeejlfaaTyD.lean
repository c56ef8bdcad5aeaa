/- types.level, Level, Size; tree.Fun, types.Function. -/
import Derived.Test.YtgkdehfbeejlfaaTyC
set_option linter.unusedVariables false
set_option linter.unusedSimpArgs false
set_option maxRecDepth 10000
namespace Go.Proofs.Ytgkdehfbeejlfaa
namespace M
attribute [local irreducible] Wp thenK blockK endK
variable {E : Oracle}
open T (Ty Tm)
theorem level1 (s : Ty) (hs : s.size ≤ 1000000000) : den X E 38 [s.raw.enc] [] = some (.int .i64 s.level, []) := by
  induction s with
  | pair a b ih1 ih2 =>
    simp only [Ty.size] at hs
    have c1 : ∀ (_ : Unit), ∀ (g : Nat) (S : St) (o1 : Own), callT (X.at g) (den X E) S 38 [.agg [.int .i64 a.raw.k, .sl (List.map RT.cells a.raw.as) o1]] = some (.int .i64 a.level, S) := by
      intros
      simpa using call_up (cf := X.at _) (fn := Try.f38) (args' := [_]) (by kernel_rfl) (by simp) (by simp; try rfl) (ih1 (by omega)) _
    have c2 : ∀ (_ : Unit), ∀ (g : Nat) (S : St) (o1 : Own), callT (X.at g) (den X E) S 38 [.agg [.int .i64 b.raw.k, .sl (List.map RT.cells b.raw.as) o1]] = some (.int .i64 b.level, S) := by
      intros
      simpa using call_up (cf := X.at _) (fn := Try.f38) (args' := [_]) (by kernel_rfl) (by simp) (by simp; try rfl) (ih2 (by omega)) _
    simp only [Ty.raw, RT.enc_eq, RT.k_mk, RT.as_mk]
    refine den_w0 (fn := Try.f38) (by rfl) (by rfl) (by kernel_rfl) rfl (by rfl) ?_
    simp -implicitDefEqProofs
    (repeat (first | refine Wp.seq ?_ | refine Wp.block ?_ | refine Wp.skip ?_ | refine Wp.exit ?_ | refine Wp.ret ?_ | refine thenK_n ?_ | refine thenK_r ?_ | refine thenK_e ?_ | refine blockK_n ?_ | refine blockK_r ?_ | refine blockK_e ?_ | refine blockK_o (by decide) ?_ | (refine Wp.condT ?_ ?_; focus (simp -implicitDefEqProofs [c1 (), c2 ()] <;> fail)) | (refine Wp.condF ?_ ?_; focus (simp -implicitDefEqProofs [c1 (), c2 ()] <;> fail)) | refine Wp.reg (by simp -implicitDefEqProofs [c1 (), c2 ()]; exact ⟨rfl, rfl⟩) ?_ | refine Wp.regA (by simp -implicitDefEqProofs [c1 (), c2 ()]; exact ⟨rfl, rfl⟩) (by rfl) ?_))
    (apply endK_r; (focus (simp -implicitDefEqProofs [Try.f38, Ty.level]; try rfl)); (focus (intro g; simp -implicitDefEqProofs [Try.f38, Ty.level]; split <;> omega)); exact ⟨_, rfl⟩)
  | fn a b ih1 ih2 =>
    simp only [Ty.size] at hs
    have := a.level_size
    have c1 : ∀ (_ : Unit), ∀ (g : Nat) (S : St) (o1 : Own), callT (X.at g) (den X E) S 38 [.agg [.int .i64 a.raw.k, .sl (List.map RT.cells a.raw.as) o1]] = some (.int .i64 a.level, S) := by
      intros
      simpa using call_up (cf := X.at _) (fn := Try.f38) (args' := [_]) (by kernel_rfl) (by simp) (by simp; try rfl) (ih1 (by omega)) _
    have c2 : ∀ (_ : Unit), ∀ (g : Nat) (S : St) (o1 : Own), callT (X.at g) (den X E) S 38 [.agg [.int .i64 b.raw.k, .sl (List.map RT.cells b.raw.as) o1]] = some (.int .i64 b.level, S) := by
      intros
      simpa using call_up (cf := X.at _) (fn := Try.f38) (args' := [_]) (by kernel_rfl) (by simp) (by simp; try rfl) (ih2 (by omega)) _
    have hw : IntKind.i64.wrap ((a.level : Int) + 1) = a.level + 1 := IntWalk.i64_in _ (by omega)
    simp only [Ty.raw, RT.enc_eq, RT.k_mk, RT.as_mk]
    refine den_w0 (fn := Try.f38) (by rfl) (by rfl) (by kernel_rfl) rfl (by rfl) ?_
    simp -implicitDefEqProofs
    (repeat (first | refine Wp.seq ?_ | refine Wp.block ?_ | refine Wp.skip ?_ | refine Wp.exit ?_ | refine Wp.ret ?_ | refine thenK_n ?_ | refine thenK_r ?_ | refine thenK_e ?_ | refine blockK_n ?_ | refine blockK_r ?_ | refine blockK_e ?_ | refine blockK_o (by decide) ?_ | (refine Wp.condT ?_ ?_; focus (simp -implicitDefEqProofs [c1 (), c2 (), hw] <;> fail)) | (refine Wp.condF ?_ ?_; focus (simp -implicitDefEqProofs [c1 (), c2 (), hw] <;> fail)) | refine Wp.reg (by simp -implicitDefEqProofs [c1 (), c2 (), hw]; exact ⟨rfl, rfl⟩) ?_ | refine Wp.regA (by simp -implicitDefEqProofs [c1 (), c2 (), hw]; exact ⟨rfl, rfl⟩) (by rfl) ?_))
    (apply endK_r; (focus (simp -implicitDefEqProofs [Try.f38, Ty.level]; try rfl)); (focus (intro g; simp -implicitDefEqProofs [Try.f38, Ty.level]; split <;> omega)); exact ⟨_, rfl⟩)
  | _ =>
    simp only [Ty.raw, RT.enc_eq, RT.k_mk, RT.as_mk]
    refine den_w0 (fn := Try.f38) (by rfl) (by rfl) (by kernel_rfl) rfl (by rfl) ?_
    simp -implicitDefEqProofs
    (repeat (first | refine Wp.seq ?_ | refine Wp.block ?_ | refine Wp.skip ?_ | refine Wp.exit ?_ | refine Wp.ret ?_ | refine thenK_n ?_ | refine thenK_r ?_ | refine thenK_e ?_ | refine blockK_n ?_ | refine blockK_r ?_ | refine blockK_e ?_ | refine blockK_o (by decide) ?_ | (refine Wp.condT ?_ ?_; focus (simp -implicitDefEqProofs <;> fail)) | (refine Wp.condF ?_ ?_; focus (simp -implicitDefEqProofs <;> fail)) | refine Wp.reg (by simp -implicitDefEqProofs; exact ⟨rfl, rfl⟩) ?_ | refine Wp.regA (by simp -implicitDefEqProofs; exact ⟨rfl, rfl⟩) (by rfl) ?_))
    (apply endK_r; (focus (simp -implicitDefEqProofs [Try.f38, Ty.level]; try rfl)); (focus (intro g; simp -implicitDefEqProofs [Try.f38, Ty.level])); exact ⟨_, rfl⟩)
theorem level1_c {s : Ty} (hs : s.size ≤ 1000000000) (g : Nat) (S : St) (o1 : Own) : callT (X.at g) (den X E) S 38 [.agg [.int .i64 s.raw.k, .sl (List.map RT.cells s.raw.as) o1]] = some (.int .i64 s.level, S) := by
  simpa using call_up (cf := X.at g) (fn := Try.f38) (args' := [.agg [.int .i64 s.raw.k, .sl (List.map RT.cells s.raw.as) o1]]) (by kernel_rfl) (by simp) (by simp; try rfl) (level1 s hs) S

/-- A valid type, or an error. -/
theorem Level_ok (s : Ty) (hs : s.size ≤ 64) : den X E 11 [s.raw.enc] [] = some (.tup [.int .i64 s.level, .int .i64 0], []) := by
  have c1 := typesCheck_c (E := E) (k := s.raw.k) (ts := s.raw.as) (by simp [Ty.raw_nodes]; omega)
  simp [s.raw_err hs] at c1
  have c2 := level1_c (E := E) (s := s) (by omega)
  refine den_w0 (fn := Try.f11) (by rfl) (by rfl) (by kernel_rfl) rfl (by rfl) ?_
  simp -implicitDefEqProofs
  (repeat (first | refine Wp.seq ?_ | refine Wp.block ?_ | refine Wp.skip ?_ | refine Wp.exit ?_ | refine Wp.ret ?_ | refine thenK_n ?_ | refine thenK_r ?_ | refine thenK_e ?_ | refine blockK_n ?_ | refine blockK_r ?_ | refine blockK_e ?_ | refine blockK_o (by decide) ?_ | (refine Wp.condT ?_ ?_; focus (simp -implicitDefEqProofs [c1, c2] <;> fail)) | (refine Wp.condF ?_ ?_; focus (simp -implicitDefEqProofs [c1, c2] <;> fail)) | refine Wp.reg (by simp -implicitDefEqProofs [c1, c2]; exact ⟨rfl, rfl⟩) ?_ | refine Wp.regA (by simp -implicitDefEqProofs [c1, c2]; exact ⟨rfl, rfl⟩) (by rfl) ?_))
  (apply endK_r; (focus (simp -implicitDefEqProofs [Try.f11]; try rfl)); (focus (intro g; simp -implicitDefEqProofs [Try.f11])); exact ⟨_, rfl⟩)
theorem Level_ok_c {s : Ty} (hs : s.size ≤ 64) (g : Nat) (S : St) (o1 : Own) : callT (X.at g) (den X E) S 11 [.agg [.int .i64 s.raw.k, .sl (List.map RT.cells s.raw.as) o1]] = some (.tup [.int .i64 s.level, .int .i64 0], S) := by
  simpa using call_up (cf := X.at g) (fn := Try.f11) (args' := [.agg [.int .i64 s.raw.k, .sl (List.map RT.cells s.raw.as) o1]]) (by kernel_rfl) (by simp) (by simp; try rfl) (Level_ok s hs) S
theorem Level_bad (t : RT) (ht : t.nodes ≤ 1000000000) (he : t.err ≠ 0) : den X E 11 [t.enc] [] = some (.tup [.int .i64 0, .int .i64 t.err], []) := by
  have c1 := typesCheck_c (E := E) (k := t.k) (ts := t.as) (by simpa using ht)
  simp at c1
  refine den_w0 (fn := Try.f11) (by rfl) (by rfl) (by kernel_rfl) rfl (by rfl) ?_
  simp -implicitDefEqProofs
  (repeat (first | refine Wp.seq ?_ | refine Wp.block ?_ | refine Wp.skip ?_ | refine Wp.exit ?_ | refine Wp.ret ?_ | refine thenK_n ?_ | refine thenK_r ?_ | refine thenK_e ?_ | refine blockK_n ?_ | refine blockK_r ?_ | refine blockK_e ?_ | refine blockK_o (by decide) ?_ | (refine Wp.condT ?_ ?_; focus (simp -implicitDefEqProofs [c1, he] <;> fail)) | (refine Wp.condF ?_ ?_; focus (simp -implicitDefEqProofs [c1, he] <;> fail)) | refine Wp.reg (by simp -implicitDefEqProofs [c1, he]; exact ⟨rfl, rfl⟩) ?_ | refine Wp.regA (by simp -implicitDefEqProofs [c1, he]; exact ⟨rfl, rfl⟩) (by rfl) ?_))
  (apply endK_r; (focus (simp -implicitDefEqProofs [Try.f11]; try rfl)); (focus (intro g; simp -implicitDefEqProofs [Try.f11])); exact ⟨_, rfl⟩)

theorem Size1 (t : RT) (ht : t.nodes ≤ 1000000000) : den X E 12 [t.enc] [] = some (.tup [.int .i64 (if t.err = 0 then t.nodes else 0), .int .i64 t.err], []) := by
  have c1 := checkType_c (E := E) (k := t.k) (ts := t.as) (by simpa using ht)
  simp at c1
  refine den_w0 (fn := Try.f12) (by rfl) (by rfl) (by kernel_rfl) rfl (by rfl) ?_
  simp -implicitDefEqProofs
  (repeat (first | refine Wp.seq ?_ | refine Wp.block ?_ | refine Wp.skip ?_ | refine Wp.exit ?_ | refine Wp.ret ?_ | refine thenK_n ?_ | refine thenK_r ?_ | refine thenK_e ?_ | refine blockK_n ?_ | refine blockK_r ?_ | refine blockK_e ?_ | refine blockK_o (by decide) ?_ | (refine Wp.condT ?_ ?_; focus (simp -implicitDefEqProofs [c1] <;> fail)) | (refine Wp.condF ?_ ?_; focus (simp -implicitDefEqProofs [c1] <;> fail)) | refine Wp.reg (by simp -implicitDefEqProofs [c1]; exact ⟨rfl, rfl⟩) ?_ | refine Wp.regA (by simp -implicitDefEqProofs [c1]; exact ⟨rfl, rfl⟩) (by rfl) ?_))
  (apply endK_r; (focus (simp -implicitDefEqProofs [Try.f12]; try rfl)); (focus (intro g; simp -implicitDefEqProofs [Try.f12])); exact ⟨_, rfl⟩)
theorem Size1_c {k : Int} {ts : List RT} (ht : (RT.mk k ts).nodes ≤ 1000000000) (g : Nat) (S : St) (o1 : Own) : callT (X.at g) (den X E) S 12 [.agg [.int .i64 k, .sl (List.map RT.cells ts) o1]] = some (.tup [.int .i64 (if (RT.mk k ts).err = 0 then (RT.mk k ts).nodes else 0), .int .i64 (RT.mk k ts).err], S) := by
  simpa using call_up (cf := X.at g) (fn := Try.f12) (args' := [.agg [.int .i64 k, .sl (List.map RT.cells ts) o1]]) (by kernel_rfl) (by simp) (by simp; try rfl) (Size1 (.mk k ts) ht) S

/-- The type of a function of some arguments. -/
def RT.fun (l : List RT) (t : RT) : RT := l.foldr (fun a r => .mk 4 [a, r]) t
theorem treeFun (t : RT) (l : List RT) (hl : l.length ≤ 1000000000) : den X E 37 [t.enc, .sl (l.map RT.cells) .dead] [] = some ((RT.fun l t).enc, []) := by
  have hw0 : IntKind.i64.wrap ((l.length : Int) - 1) = l.length - 1 := IntWalk.i64_in _ (by omega)
  refine den_w0 (fn := Try.f37) (by rfl) (by rfl) (by kernel_rfl) rfl (by rfl) ?_
  simp -implicitDefEqProofs
  (repeat (first | refine Wp.seq ?_ | refine Wp.block ?_ | refine Wp.skip ?_ | refine Wp.exit ?_ | refine Wp.ret ?_ | refine thenK_n ?_ | refine thenK_r ?_ | refine thenK_e ?_ | refine blockK_n ?_ | refine blockK_r ?_ | refine blockK_e ?_ | refine blockK_o (by decide) ?_ | (refine Wp.condT ?_ ?_; focus (simp -implicitDefEqProofs [hw0] <;> fail)) | (refine Wp.condF ?_ ?_; focus (simp -implicitDefEqProofs [hw0] <;> fail)) | refine Wp.reg (by simp -implicitDefEqProofs [hw0]; exact ⟨rfl, rfl⟩) ?_ | refine Wp.regA (by simp -implicitDefEqProofs [hw0]; exact ⟨rfl, rfl⟩) (by rfl) ?_))
  refine Wp.loopF [5, 9, 10, 11, 12, 13, 14, 15, 16, 17, 18, 19] [0] (fun n w c tk => ∃ rest done xs o, l = rest ++ done ∧ n = rest.length ∧ w 5 = .int .i64 ((rest.length : Int) - 1) ∧ c 0 = [.int .i64 (RT.fun done t).k, .sl xs o] ∧ ∀ g, xs.map (List.map (mapLoc g)) = (RT.fun done t).as.map RT.cells) (l.length) ?_ ?_ ?_ ?_
  · rfl
  · rfl
  · exact ⟨l, [], t.as.map RT.cells, .dead, by simp, rfl, rfl, by simp [RT.fun], by simp [RT.fun]⟩
  rintro n w c junk tk r σ ⟨rest, done, xs, o, hd, rfl, h5, h0, hx⟩ hr hσ
  simp -implicitDefEqProofs [h5, h0] at hr hσ
  subst hr hσ
  rcases List.eq_nil_or_concat rest with rfl | ⟨rest, a, rfl⟩
  · simp at hd
    subst hd
    (repeat (first | refine Wp.seq ?_ | refine Wp.block ?_ | refine Wp.skip ?_ | refine Wp.exit ?_ | refine Wp.ret ?_ | refine thenK_n ?_ | refine thenK_r ?_ | refine thenK_e ?_ | refine blockK_n ?_ | refine blockK_r ?_ | refine blockK_e ?_ | refine blockK_o (by decide) ?_ | (refine Wp.condT ?_ ?_; focus (simp -implicitDefEqProofs <;> fail)) | (refine Wp.condF ?_ ?_; focus (simp -implicitDefEqProofs <;> fail)) | refine Wp.reg (by simp -implicitDefEqProofs; exact ⟨rfl, rfl⟩) ?_ | refine Wp.regA (by simp -implicitDefEqProofs; exact ⟨rfl, rfl⟩) (by rfl) ?_))
    (apply endK_r; (focus (simp -implicitDefEqProofs [Try.f37, hx]; try rfl)); (focus (intro g; simp -implicitDefEqProofs [Try.f37, hx])); exact ⟨_, rfl⟩)
  · have ha : el l rest.length = some a := by simp [hd]
    have hp : (0 : Int) ≤ rest.length := by omega
    have hlt : rest.length < l.length := by simp [hd]
    have hw : IntKind.i64.wrap ((rest.length : Int) - 1) = rest.length - 1 := IntWalk.i64_in _ (by omega)
    (repeat (first | refine Wp.seq ?_ | refine Wp.block ?_ | refine Wp.skip ?_ | refine Wp.exit ?_ | refine Wp.ret ?_ | refine thenK_n ?_ | refine thenK_r ?_ | refine thenK_e ?_ | refine blockK_n ?_ | refine blockK_r ?_ | refine blockK_e ?_ | refine blockK_o (by decide) ?_ | (refine Wp.condT ?_ ?_; focus (simp -implicitDefEqProofs [ha, hp, hw] <;> fail)) | (refine Wp.condF ?_ ?_; focus (simp -implicitDefEqProofs [ha, hp, hw] <;> fail)) | refine Wp.reg (by simp -implicitDefEqProofs [ha, hp, hw]; exact ⟨rfl, rfl⟩) ?_ | refine Wp.regA (by simp -implicitDefEqProofs [ha, hp, hw]; exact ⟨rfl, rfl⟩) (by rfl) ?_))
    refine ⟨by simp, ⟨_, by simp -implicitDefEqProofs; rfl⟩, rest.length, by simp, rest, a :: done, _, _, by simp [hd], rfl, by simp, by simp [RT.fun]; exact ⟨rfl, rfl⟩, by intro g; simp [RT.fun, hx]⟩
theorem treeFun_c {k : Int} {ts l : List RT} (hl : l.length ≤ 1000000000) (g : Nat) (S : St) (o1 o2 : Own) : callT (X.at g) (den X E) S 37 [.agg [.int .i64 k, .sl (List.map RT.cells ts) o1], .sl (l.map RT.cells) o2] = some (.agg [.int .i64 (RT.fun l (.mk k ts)).k, .sl (List.map RT.cells (RT.fun l (.mk k ts)).as) .dead], S) := by
  simpa using call_up (cf := X.at g) (fn := Try.f37) (args' := [.agg [.int .i64 k, .sl (List.map RT.cells ts) o1], .sl (l.map RT.cells) o2]) (by kernel_rfl) (by simp) (by simp; try rfl) (treeFun (.mk k ts) l hl) S
end M
end Go.Proofs.Ytgkdehfbeejlfaa
