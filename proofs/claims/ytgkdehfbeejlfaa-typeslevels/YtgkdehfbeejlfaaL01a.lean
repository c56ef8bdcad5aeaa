/- law01.TypesLevels. -/
import Derived.Test.YtgkdehfbeejlfaaTyE
set_option linter.unusedVariables false
set_option linter.unusedSimpArgs false
set_option maxRecDepth 10000
namespace Go.Proofs.Ytgkdehfbeejlfaa
namespace M
attribute [local irreducible] Wp thenK blockK endK
variable {E : Oracle}
open T (Ty Tm)
theorem sane1 : den X E 6 [] [] = some (.bool true, []) := by
  have c1 := fun1_c (E := E) (k := 1) (m := 1) (ts := []) (us := []) (by decide) (by decide)
  have c2 := fun1_c (E := E) (k := 4) (m := 1) (ts := [.mk 1 [], .mk 1 []]) (us := []) (by decide) (by decide)
  have c3 := Level_ok_c (E := E) (s := .fn .nat .nat) (by decide)
  have c4 := Level_ok_c (E := E) (s := .fn (.fn .nat .nat) .nat) (by decide)
  simp [Ty.raw, Ty.level] at c1 c2 c3 c4
  refine den_w0 (fn := Try.f6) (by rfl) (by rfl) (by kernel_rfl) rfl (by rfl) ?_
  simp -implicitDefEqProofs
  (repeat (first | refine Wp.seq ?_ | refine Wp.block ?_ | refine Wp.skip ?_ | refine Wp.exit ?_ | refine Wp.ret ?_ | refine thenK_n ?_ | refine thenK_r ?_ | refine thenK_e ?_ | refine blockK_n ?_ | refine blockK_r ?_ | refine blockK_e ?_ | refine blockK_o (by decide) ?_ | (refine Wp.condT ?_ ?_; focus (simp -implicitDefEqProofs [nat1_c, c1, c2, c3, c4] <;> fail)) | (refine Wp.condF ?_ ?_; focus (simp -implicitDefEqProofs [nat1_c, c1, c2, c3, c4] <;> fail)) | refine Wp.reg (by simp -implicitDefEqProofs [nat1_c, c1, c2, c3, c4]; exact ⟨rfl, rfl⟩) ?_ | refine Wp.regA (by simp -implicitDefEqProofs [nat1_c, c1, c2, c3, c4]; exact ⟨rfl, rfl⟩) (by rfl) ?_))
  (apply endK_r; (focus (simp -implicitDefEqProofs [Try.f6]; try rfl)); (focus (intro g; simp -implicitDefEqProofs [Try.f6])); exact ⟨_, rfl⟩)
theorem sane1_c  (g : Nat) (S : St)  : callT (X.at g) (den X E) S 6 [] = some (.bool true, S) := by
  simpa using call_up (cf := X.at g) (fn := Try.f6) (args' := []) (by kernel_rfl) (by simp) (by simp; try rfl) (sane1) S

theorem typesLevels (zs : List Int) : den X E 3 [.sl (zs.map ic) .dead] [] = some (.bool true, []) := by
  by_cases hf : zs.length ≤ 500
  rotate_left
  · have c1 := few1_c (E := E) zs
    simp [hf] at c1
    refine den_w0 (fn := Try.f3) (by rfl) (by rfl) (by kernel_rfl) rfl (by rfl) ?_
    simp -implicitDefEqProofs
    (repeat (first | refine Wp.seq ?_ | refine Wp.block ?_ | refine Wp.skip ?_ | refine Wp.exit ?_ | refine Wp.ret ?_ | refine thenK_n ?_ | refine thenK_r ?_ | refine thenK_e ?_ | refine blockK_n ?_ | refine blockK_r ?_ | refine blockK_e ?_ | refine blockK_o (by decide) ?_ | (refine Wp.condT ?_ ?_; focus (simp -implicitDefEqProofs [sane1_c, c1] <;> fail)) | (refine Wp.condF ?_ ?_; focus (simp -implicitDefEqProofs [sane1_c, c1] <;> fail)) | refine Wp.reg (by simp -implicitDefEqProofs [sane1_c, c1]; exact ⟨rfl, rfl⟩) ?_ | refine Wp.regA (by simp -implicitDefEqProofs [sane1_c, c1]; exact ⟨rfl, rfl⟩) (by rfl) ?_))
    (apply endK_r; (focus (simp -implicitDefEqProofs [Try.f3]; try rfl)); (focus (intro g; simp -implicitDefEqProofs [Try.f3])); exact ⟨_, rfl⟩)
  have c1 := few1_c (E := E) zs
  simp [hf] at c1
  have c2 := new1_c (E := E) zs
  have hz : zs.length ≤ 1000000 := by omega
  have h1 : (typeP zs 2 0).2 ≤ zs.length := typeP_le 2 (Nat.zero_le _)
  have c3 := mkType_c (E := E) zs hz 2 0 (by decide) (Nat.zero_le _)
  have c4 := mkType_c (E := E) zs hz 2 _ (by decide) h1
  have s1 := typeP_size zs 2 0
  have s2 := typeP_size zs 2 (typeP zs 2 0).2
  revert c3 c4 s1 s2
  generalize typeP zs 2 (typeP zs 2 0).2 = py
  generalize typeP zs 2 0 = px
  obtain ⟨x, i1⟩ := px
  obtain ⟨y, i2⟩ := py
  intro c3 c4 s1 s2
  simp only at c3 c4 s1 s2
  simp at c3 c4
  have hfun : funR [x.raw] y.raw = ((Ty.fn x y).raw, 0) := by
    have e1 := x.raw_err (by omega)
    have e2 := y.raw_err (by omega)
    have : ¬ totalNodes ([x.raw] ++ [y.raw]) + [x.raw].length > 64 := by simp [totalNodes, Ty.raw_nodes]; omega
    unfold funR
    rw [if_neg (by simp [firstErr, e1, e2]), if_neg this]
    rfl
  have c5 : ∀ (g : Nat) (S : St) (o1 o2 : Own), callT (X.at g) (den X E) S 10 [.sl ([x.raw].map RT.cells) o1, .agg [.int .i64 y.raw.k, .sl (List.map RT.cells y.raw.as) o2]] = some (.tup [(funR [x.raw] y.raw).1.enc, .int .i64 (funR [x.raw] y.raw).2], S) := by
    intros
    simpa using call_up (cf := X.at _) (fn := Try.f10) (args' := [_, _]) (by kernel_rfl) (by simp) (by simp; try rfl) (typesFunction (E := E) [x.raw] y.raw (by simp [totalNodes, Ty.raw_nodes]; omega)) _
  simp [hfun] at c5
  have c6 := Level_ok_c (E := E) (s := x) (by omega)
  have c7 := Level_ok_c (E := E) (s := y) (by omega)
  have hs : (Ty.fn x y).size ≤ 64 := by simp [Ty.size]; omega
  have c8 := Level_ok_c (E := E) (s := .fn x y) hs
  have c9 := Size1_c (E := E) (k := x.raw.k) (ts := x.raw.as) (by simp [Ty.raw_nodes]; omega)
  have c10 := Size1_c (E := E) (k := y.raw.k) (ts := y.raw.as) (by simp [Ty.raw_nodes]; omega)
  have c11 := Size1_c (E := E) (k := (Ty.fn x y).raw.k) (ts := (Ty.fn x y).raw.as) (by simp [Ty.raw_nodes]; omega)
  have e1 := x.raw_err (by omega)
  have e2 := y.raw_err (by omega)
  have e3 := (Ty.fn x y).raw_err hs
  simp [e1, e2, e3, Ty.raw_nodes] at c9 c10 c11
  have l1 := x.level_size
  have l2 := y.level_size
  have hw1 : IntKind.i64.wrap ((x.level : Int) + 1) = x.level + 1 := IntWalk.i64_in _ (by omega)
  have hw2 : IntKind.i64.wrap ((x.size : Int) + y.size) = x.size + y.size := IntWalk.i64_in _ (by omega)
  have hw3 : IntKind.i64.wrap ((x.size : Int) + y.size + 1) = x.size + y.size + 1 := IntWalk.i64_in _ (by omega)
  have hm : (if (x.level : Int) + 1 < y.level then (y.level : Int) else x.level + 1) = (Ty.fn x y).level := by simp only [Ty.level]; split <;> omega
  have hz2 : ((Ty.fn x y).size : Int) = x.size + y.size + 1 := by simp [Ty.size]
  refine den_w0 (fn := Try.f3) (by rfl) (by rfl) (by kernel_rfl) rfl (by rfl) ?_
  simp -implicitDefEqProofs
  (repeat (first | refine Wp.seq ?_ | refine Wp.block ?_ | refine Wp.skip ?_ | refine Wp.exit ?_ | refine Wp.ret ?_ | refine thenK_n ?_ | refine thenK_r ?_ | refine thenK_e ?_ | refine blockK_n ?_ | refine blockK_r ?_ | refine blockK_e ?_ | refine blockK_o (by decide) ?_ | (refine Wp.condT ?_ ?_; focus (simp -implicitDefEqProofs [sane1_c, c1, c2, c3, c4, c5, c6, c7, c8, c9, c10, c11, hw1, hw2, hw3, hm, hz2] <;> fail)) | (refine Wp.condF ?_ ?_; focus (simp -implicitDefEqProofs [sane1_c, c1, c2, c3, c4, c5, c6, c7, c8, c9, c10, c11, hw1, hw2, hw3, hm, hz2] <;> fail)) | refine Wp.reg (by simp -implicitDefEqProofs [sane1_c, c1, c2, c3, c4, c5, c6, c7, c8, c9, c10, c11, hw1, hw2, hw3, hm, hz2]; exact ⟨rfl, rfl⟩) ?_ | refine Wp.regA (by simp -implicitDefEqProofs [sane1_c, c1, c2, c3, c4, c5, c6, c7, c8, c9, c10, c11, hw1, hw2, hw3, hm, hz2]; exact ⟨rfl, rfl⟩) (by rfl) ?_))
  (apply endK_r; (focus (simp -implicitDefEqProofs [Try.f3]; try rfl)); (focus (intro g; simp -implicitDefEqProofs [Try.f3])); exact ⟨_, rfl⟩)
end M
end Go.Proofs.Ytgkdehfbeejlfaa
