/- A part of the proof: EvA, EvB, EvC, EvE, EvR. -/
import Derived.Test.YthclcchnodjjpaaGreatDoorG11
import Derived.Test.YthclcchnodjjpaaGreatDoorG20
/- ref06: the machine's call; eval, case by case (1). -/
set_option linter.unusedVariables false
set_option linter.unusedSimpArgs false
set_option maxRecDepth 10000
set_option maxHeartbeats 4000000
namespace Go.Proofs.YthclcchnodjjpaaGreatDoor
namespace M
attribute [local irreducible] Wp thenK blockK endK
variable {E : Oracle}
open T (V Ty Tm noTy Eval Ans evM evStep callV recU foldU roundR roundF)
attribute [local simp] noTy
/-- What eval answers; what call answers. -/
def EvD (E : Oracle) (M u : Nat) (e : List V) (t : Tm) (r : Ans) : Prop := den X E 65 [.loc 0 0, t.raw.enc, envV e] [[.int .i64 u, .int .i64 M, .bool false]] = some ((V.rx r.1).enc, [[.int .i64 r.2.1, .int .i64 M, .bool r.2.2]])
def CaD (E : Oracle) (M u : Nat) (f a : V) (r : Ans) : Prop := den X E 66 [.loc 0 0, (V.rx f).enc, (V.rx a).enc] [[.int .i64 u, .int .i64 M, .bool false]] = some ((V.rx r.1).enc, [[.int .i64 r.2.1, .int .i64 M, .bool r.2.2]])
theorem evD_c {M u : Nat} {e : List V} {t : Tm} {r : Ans} (h : EvD E M u e t r) (g b : Nat) (S : St) (o1 o2 o3 : Own) (hS : sd S.σ b = some [.int .i64 u, .int .i64 M, .bool false]) : callT (X.at g) (den X E) S 65 [.loc b 0, .agg [.int .i64 t.raw.k, .int .i64 t.raw.i, .int .i64 t.raw.ty.k, .sl (List.map RT.cells t.raw.ty.as) o1, .sl (List.map RM.cells t.raw.as) o2], .sl ((e.map (RX.cells ∘ V.rx)).reverse) o3] = some (.agg [.int .i64 (V.rx r.1).n, .sl (List.map ic (V.rx r.1).l) .dead, .sl (List.map RX.cells (V.rx r.1).p) .dead, .int .i64 (V.rx r.1).b.k, .int .i64 (V.rx r.1).b.i, .int .i64 (V.rx r.1).b.ty.k, .sl (List.map RT.cells (V.rx r.1).b.ty.as) .dead, .sl (List.map RM.cells (V.rx r.1).b.as) .dead, .sl (List.map RX.cells (V.rx r.1).e) .dead], { S with σ := S.σ.set b [.int .i64 r.2.1, .int .i64 M, .bool r.2.2] }) := by
  simpa using call_upD (cf := X.at g) (fn := Tryz.f65) (args' := [.agg [.int .i64 t.raw.k, .int .i64 t.raw.i, .int .i64 t.raw.ty.k, .sl (List.map RT.cells t.raw.ty.as) o1, .sl (List.map RM.cells t.raw.as) o2], .sl ((e.map (RX.cells ∘ V.rx)).reverse) o3]) (by kernel_rfl) rfl (by rfl) (by rfl) (by simp) (by simp; try rfl) (by simp) (by simp) (by simpa [EvD] using h) S hS
theorem caD_c {M u : Nat} {f a : V} {r : Ans} (h : CaD E M u f a r) (g b : Nat) (S : St) (o1 o2 o3 o4 o5 o6 o7 o8 o9 o10 : Own) (hS : sd S.σ b = some [.int .i64 u, .int .i64 M, .bool false]) : callT (X.at g) (den X E) S 66 [.loc b 0, .agg [.int .i64 (V.rx f).n, .sl (List.map ic (V.rx f).l) o1, .sl (List.map RX.cells (V.rx f).p) o2, .int .i64 (V.rx f).b.k, .int .i64 (V.rx f).b.i, .int .i64 (V.rx f).b.ty.k, .sl (List.map RT.cells (V.rx f).b.ty.as) o3, .sl (List.map RM.cells (V.rx f).b.as) o4, .sl (List.map RX.cells (V.rx f).e) o5], .agg [.int .i64 (V.rx a).n, .sl (List.map ic (V.rx a).l) o6, .sl (List.map RX.cells (V.rx a).p) o7, .int .i64 (V.rx a).b.k, .int .i64 (V.rx a).b.i, .int .i64 (V.rx a).b.ty.k, .sl (List.map RT.cells (V.rx a).b.ty.as) o8, .sl (List.map RM.cells (V.rx a).b.as) o9, .sl (List.map RX.cells (V.rx a).e) o10]] = some (.agg [.int .i64 (V.rx r.1).n, .sl (List.map ic (V.rx r.1).l) .dead, .sl (List.map RX.cells (V.rx r.1).p) .dead, .int .i64 (V.rx r.1).b.k, .int .i64 (V.rx r.1).b.i, .int .i64 (V.rx r.1).b.ty.k, .sl (List.map RT.cells (V.rx r.1).b.ty.as) .dead, .sl (List.map RM.cells (V.rx r.1).b.as) .dead, .sl (List.map RX.cells (V.rx r.1).e) .dead], { S with σ := S.σ.set b [.int .i64 r.2.1, .int .i64 M, .bool r.2.2] }) := by
  simpa using call_upD (cf := X.at g) (fn := Tryz.f66) (args' := [.agg [.int .i64 (V.rx f).n, .sl (List.map ic (V.rx f).l) o1, .sl (List.map RX.cells (V.rx f).p) o2, .int .i64 (V.rx f).b.k, .int .i64 (V.rx f).b.i, .int .i64 (V.rx f).b.ty.k, .sl (List.map RT.cells (V.rx f).b.ty.as) o3, .sl (List.map RM.cells (V.rx f).b.as) o4, .sl (List.map RX.cells (V.rx f).e) o5], .agg [.int .i64 (V.rx a).n, .sl (List.map ic (V.rx a).l) o6, .sl (List.map RX.cells (V.rx a).p) o7, .int .i64 (V.rx a).b.k, .int .i64 (V.rx a).b.i, .int .i64 (V.rx a).b.ty.k, .sl (List.map RT.cells (V.rx a).b.ty.as) o8, .sl (List.map RM.cells (V.rx a).b.as) o9, .sl (List.map RX.cells (V.rx a).e) o10]]) (by kernel_rfl) rfl (by rfl) (by rfl) (by simp) (by simp; try rfl) (by simp) (by simp) (by simpa [CaD] using h) S hS

theorem slice_env (e : List V) (k : Nat) : sliceT (X.at k) 89 (.sl (List.map (RX.cells ∘ V.rx) e).reverse .dead) none (some (some (.int .i64 e.length))) (some (some (.int .i64 e.length))) = some (.sl (List.map (RX.cells ∘ V.rx) e).reverse .full) := by
  have h1 : (List.map (RX.cells ∘ V.rx) e).reverse.all (fun c => c.length == 9) = true := by simp
  have htk : List.take e.length (List.map (RX.cells ∘ V.rx) e).reverse = (List.map (RX.cells ∘ V.rx) e).reverse := by rw [List.take_of_length_le (by simp)]
  simp [sliceT, h1, htk]
theorem call6 {M u : Nat} {b : Tm} {e : List V} {a : V} {r : Ans} (hl : e.length ≤ 1000000000) (h : EvD E M u (a :: e) b r) : CaD E M u (.clo b e) a r := by
  have c1 := evD_c h
  simp at c1
  have hsl := slice_env e
  have hroom : (e.length + 1) * 152 ≤ 70368744177664 := by omega
  unfold CaD
  simp only [V.rx_clo]
  simp
  refine den_w (fn := Tryz.f66) (σ1 := [[.int .i64 r.2.1, .int .i64 M, .bool r.2.2]]) (by rfl) (by rfl) (by kernel_rfl) rfl (by rfl) (by rfl) (by simp -implicitDefEqProofs) ?_
  simp -implicitDefEqProofs
  (repeat (first | refine Wp.seq ?_ | refine Wp.block ?_ | refine Wp.skip ?_ | refine Wp.exit ?_ | refine Wp.ret ?_ | refine thenK_n ?_ | refine thenK_r ?_ | refine thenK_e ?_ | refine blockK_n ?_ | refine blockK_r ?_ | refine blockK_e ?_ | refine blockK_o (by decide) ?_ | (refine Wp.condT ?_ ?_; focus (simp -implicitDefEqProofs [-sliceT, hsl, hroom, c1] <;> fail)) | (refine Wp.condF ?_ ?_; focus (simp -implicitDefEqProofs [-sliceT, hsl, hroom, c1] <;> fail)) | refine Wp.reg (by simp -implicitDefEqProofs [-sliceT, hsl, hroom, c1]; exact ⟨rfl, rfl⟩) ?_ | refine Wp.regA (by simp -implicitDefEqProofs [-sliceT, hsl, hroom, c1]; exact ⟨rfl, rfl⟩) (by rfl) ?_))
  (apply endK_r; (focus (simp -implicitDefEqProofs [Tryz.f66]; try rfl)); (focus (intro g; simp -implicitDefEqProofs [Tryz.f66])); exact ⟨_, rfl⟩)
theorem eval_end {M u : Nat} {e : List V} {t : Tm} (hu : u = M) : EvD E M u e t (.unit, u, true) := by
  subst hu
  unfold EvD
  simp
  refine den_w (fn := Tryz.f65) (σ1 := [[.int .i64 u, .int .i64 u, .bool true]]) (by rfl) (by rfl) (by kernel_rfl) rfl (by rfl) (by rfl) (by simp -implicitDefEqProofs) ?_
  simp -implicitDefEqProofs
  (repeat (first | refine Wp.seq ?_ | refine Wp.block ?_ | refine Wp.skip ?_ | refine Wp.exit ?_ | refine Wp.ret ?_ | refine thenK_n ?_ | refine thenK_r ?_ | refine thenK_e ?_ | refine blockK_n ?_ | refine blockK_r ?_ | refine blockK_e ?_ | refine blockK_o (by decide) ?_ | (refine Wp.condT ?_ ?_; focus (simp -implicitDefEqProofs <;> fail)) | (refine Wp.condF ?_ ?_; focus (simp -implicitDefEqProofs <;> fail)) | refine Wp.reg (by simp -implicitDefEqProofs; exact ⟨rfl, rfl⟩) ?_ | refine Wp.regA (by simp -implicitDefEqProofs; exact ⟨rfl, rfl⟩) (by rfl) ?_))
  (apply endK_r; (focus (simp -implicitDefEqProofs [Tryz.f65]; try rfl)); (focus (intro g; simp -implicitDefEqProofs [Tryz.f65])); exact ⟨_, rfl⟩)
theorem eval_var {M u i : Nat} {e : List V} {v : V} (hu : u < M) (hM : M ≤ 1000000) (hv : e[i]? = some v) (hl : e.length ≤ 1000000000) : EvD E M u e (.var i) (v, u + 1, false) := by
  have hne : ((u : Int) == (M : Int)) = false := by simp; omega
  have hw : IntKind.i64.wrap ((u : Int) + 1) = u + 1 := IntWalk.i64_in _ (by omega)
  have hi : i < e.length := (List.getElem?_eq_some_iff.1 hv).1
  have hw1 : IntKind.i64.wrap ((e.length : Int) - 1) = e.length - 1 := IntWalk.i64_in _ (by omega)
  have hw2 : IntKind.i64.wrap ((e.length : Int) - 1 - i) = (e.length : Int) - 1 - i := IntWalk.i64_in _ (by omega)
  have hidx : ((e.length : Int) - 1 - i).toNat = e.length - 1 - i := by omega
  have hge : (i : Int) ≤ (e.length : Int) - 1 := by omega
  have hel : el (List.map (RX.cells ∘ V.rx) e).reverse (e.length - 1 - i) = some (V.rx v).cells := by
    have := el_reverse (List.map (RX.cells ∘ V.rx) e) i (by simpa using hi)
    simp only [List.length_map] at this
    rw [this]
    simp [el, hv]
  simp only [RX.cells_eq] at hel
  unfold EvD
  simp [Tm.raw]
  refine den_w (fn := Tryz.f65) (σ1 := [[.int .i64 (u + 1 : Nat), .int .i64 M, .bool false]]) (by rfl) (by rfl) (by kernel_rfl) rfl (by rfl) (by rfl) (by simp -implicitDefEqProofs) ?_
  simp -implicitDefEqProofs
  (repeat (first | refine Wp.seq ?_ | refine Wp.block ?_ | refine Wp.skip ?_ | refine Wp.exit ?_ | refine Wp.ret ?_ | refine thenK_n ?_ | refine thenK_r ?_ | refine thenK_e ?_ | refine blockK_n ?_ | refine blockK_r ?_ | refine blockK_e ?_ | refine blockK_o (by decide) ?_ | (refine Wp.condT ?_ ?_; focus (simp -implicitDefEqProofs [hne, hw, hw1, hw2, hidx, hge, hel] <;> fail)) | (refine Wp.condF ?_ ?_; focus (simp -implicitDefEqProofs [hne, hw, hw1, hw2, hidx, hge, hel] <;> fail)) | refine Wp.reg (by simp -implicitDefEqProofs [hne, hw, hw1, hw2, hidx, hge, hel]; exact ⟨rfl, rfl⟩) ?_ | refine Wp.regA (by simp -implicitDefEqProofs [hne, hw, hw1, hw2, hidx, hge, hel]; exact ⟨rfl, rfl⟩) (by rfl) ?_))
  (apply endK_r; (focus (simp -implicitDefEqProofs [Tryz.f65]; try rfl)); (focus (intro g; simp -implicitDefEqProofs [Tryz.f65])); exact ⟨_, rfl⟩)
theorem eval_lam {M u : Nat} {e : List V} {s : Ty} {b : Tm} (hu : u < M) (hM : M ≤ 1000000) : EvD E M u e (.lam s b) (.clo b e, u + 1, false) := by
  have hne : ((u : Int) == (M : Int)) = false := by simp; omega
  have hw : IntKind.i64.wrap ((u : Int) + 1) = u + 1 := IntWalk.i64_in _ (by omega)
  unfold EvD
  simp [Tm.raw]
  refine den_w (fn := Tryz.f65) (σ1 := [[.int .i64 (u + 1 : Nat), .int .i64 M, .bool false]]) (by rfl) (by rfl) (by kernel_rfl) rfl (by rfl) (by rfl) (by simp -implicitDefEqProofs) ?_
  simp -implicitDefEqProofs
  (repeat (first | refine Wp.seq ?_ | refine Wp.block ?_ | refine Wp.skip ?_ | refine Wp.exit ?_ | refine Wp.ret ?_ | refine thenK_n ?_ | refine thenK_r ?_ | refine thenK_e ?_ | refine blockK_n ?_ | refine blockK_r ?_ | refine blockK_e ?_ | refine blockK_o (by decide) ?_ | (refine Wp.condT ?_ ?_; focus (simp -implicitDefEqProofs [hne, hw] <;> fail)) | (refine Wp.condF ?_ ?_; focus (simp -implicitDefEqProofs [hne, hw] <;> fail)) | refine Wp.reg (by simp -implicitDefEqProofs [hne, hw]; exact ⟨rfl, rfl⟩) ?_ | refine Wp.regA (by simp -implicitDefEqProofs [hne, hw]; exact ⟨rfl, rfl⟩) (by rfl) ?_))
  (apply endK_r; (focus (simp -implicitDefEqProofs [Tryz.f65]; try rfl)); (focus (intro g; simp -implicitDefEqProofs [Tryz.f65])); exact ⟨_, rfl⟩)
theorem eval_zero {M u : Nat} {e : List V} (hu : u < M) (hM : M ≤ 1000000) : EvD E M u e .zero (.num 0, u + 1, false) := by
  have hne : ((u : Int) == (M : Int)) = false := by simp; omega
  have hw : IntKind.i64.wrap ((u : Int) + 1) = u + 1 := IntWalk.i64_in _ (by omega)
  unfold EvD
  simp [Tm.raw]
  refine den_w (fn := Tryz.f65) (σ1 := [[.int .i64 (u + 1 : Nat), .int .i64 M, .bool false]]) (by rfl) (by rfl) (by kernel_rfl) rfl (by rfl) (by rfl) (by simp -implicitDefEqProofs) ?_
  simp -implicitDefEqProofs
  (repeat (first | refine Wp.seq ?_ | refine Wp.block ?_ | refine Wp.skip ?_ | refine Wp.exit ?_ | refine Wp.ret ?_ | refine thenK_n ?_ | refine thenK_r ?_ | refine thenK_e ?_ | refine blockK_n ?_ | refine blockK_r ?_ | refine blockK_e ?_ | refine blockK_o (by decide) ?_ | (refine Wp.condT ?_ ?_; focus (simp -implicitDefEqProofs [hne, hw] <;> fail)) | (refine Wp.condF ?_ ?_; focus (simp -implicitDefEqProofs [hne, hw] <;> fail)) | refine Wp.reg (by simp -implicitDefEqProofs [hne, hw]; exact ⟨rfl, rfl⟩) ?_ | refine Wp.regA (by simp -implicitDefEqProofs [hne, hw]; exact ⟨rfl, rfl⟩) (by rfl) ?_ | refine Wp.unroll ?_))
  (apply endK_r; (focus (simp -implicitDefEqProofs [Tryz.f65]; try rfl)); (focus (intro g; simp -implicitDefEqProofs [Tryz.f65])); exact ⟨_, rfl⟩)
theorem eval_nil {M u : Nat} {e : List V} (hu : u < M) (hM : M ≤ 1000000) : EvD E M u e .nil (.list [], u + 1, false) := by
  have hne : ((u : Int) == (M : Int)) = false := by simp; omega
  have hw : IntKind.i64.wrap ((u : Int) + 1) = u + 1 := IntWalk.i64_in _ (by omega)
  unfold EvD
  simp [Tm.raw]
  refine den_w (fn := Tryz.f65) (σ1 := [[.int .i64 (u + 1 : Nat), .int .i64 M, .bool false]]) (by rfl) (by rfl) (by kernel_rfl) rfl (by rfl) (by rfl) (by simp -implicitDefEqProofs) ?_
  simp -implicitDefEqProofs
  (repeat (first | refine Wp.seq ?_ | refine Wp.block ?_ | refine Wp.skip ?_ | refine Wp.exit ?_ | refine Wp.ret ?_ | refine thenK_n ?_ | refine thenK_r ?_ | refine thenK_e ?_ | refine blockK_n ?_ | refine blockK_r ?_ | refine blockK_e ?_ | refine blockK_o (by decide) ?_ | (refine Wp.condT ?_ ?_; focus (simp -implicitDefEqProofs [hne, hw] <;> fail)) | (refine Wp.condF ?_ ?_; focus (simp -implicitDefEqProofs [hne, hw] <;> fail)) | refine Wp.reg (by simp -implicitDefEqProofs [hne, hw]; exact ⟨rfl, rfl⟩) ?_ | refine Wp.regA (by simp -implicitDefEqProofs [hne, hw]; exact ⟨rfl, rfl⟩) (by rfl) ?_ | refine Wp.unroll ?_))
  (apply endK_r; (focus (simp -implicitDefEqProofs [Tryz.f65]; try rfl)); (focus (intro g; simp -implicitDefEqProofs [Tryz.f65])); exact ⟨_, rfl⟩)
theorem eval_unit {M u : Nat} {e : List V} (hu : u < M) (hM : M ≤ 1000000) : EvD E M u e .unit (.unit, u + 1, false) := by
  have hne : ((u : Int) == (M : Int)) = false := by simp; omega
  have hw : IntKind.i64.wrap ((u : Int) + 1) = u + 1 := IntWalk.i64_in _ (by omega)
  unfold EvD
  simp [Tm.raw]
  refine den_w (fn := Tryz.f65) (σ1 := [[.int .i64 (u + 1 : Nat), .int .i64 M, .bool false]]) (by rfl) (by rfl) (by kernel_rfl) rfl (by rfl) (by rfl) (by simp -implicitDefEqProofs) ?_
  simp -implicitDefEqProofs
  (repeat (first | refine Wp.seq ?_ | refine Wp.block ?_ | refine Wp.skip ?_ | refine Wp.exit ?_ | refine Wp.ret ?_ | refine thenK_n ?_ | refine thenK_r ?_ | refine thenK_e ?_ | refine blockK_n ?_ | refine blockK_r ?_ | refine blockK_e ?_ | refine blockK_o (by decide) ?_ | (refine Wp.condT ?_ ?_; focus (simp -implicitDefEqProofs [hne, hw] <;> fail)) | (refine Wp.condF ?_ ?_; focus (simp -implicitDefEqProofs [hne, hw] <;> fail)) | refine Wp.reg (by simp -implicitDefEqProofs [hne, hw]; exact ⟨rfl, rfl⟩) ?_ | refine Wp.regA (by simp -implicitDefEqProofs [hne, hw]; exact ⟨rfl, rfl⟩) (by rfl) ?_ | refine Wp.unroll ?_))
  (apply endK_r; (focus (simp -implicitDefEqProofs [Tryz.f65]; try rfl)); (focus (intro g; simp -implicitDefEqProofs [Tryz.f65])); exact ⟨_, rfl⟩)
end M
end Go.Proofs.YthclcchnodjjpaaGreatDoor
/- ref06: eval, case by case (2). -/
set_option linter.unusedVariables false
set_option linter.unusedSimpArgs false
set_option maxRecDepth 10000
set_option maxHeartbeats 4000000
namespace Go.Proofs.YthclcchnodjjpaaGreatDoor
namespace M
attribute [local irreducible] Wp thenK blockK endK
variable {E : Oracle}
open T (V Ty Tm noTy Eval Ans evM evStep callV recU foldU roundR roundF)
attribute [local simp] noTy
theorem eval_succ {M u : Nat} {e : List V} {a : Tm} {r1 : Ans} {k : Nat} (hu : u < M) (hM : M ≤ 1000000) (h1 : EvD E M (u + 1) e a r1) (hk : r1.2.2 = false → r1.1 = .num k ∧ k ≤ 1000000000) :
    EvD E M u e (.succ a) (if r1.2.2 = true then (.unit, r1.2.1, true) else (.num (k + 1), r1.2.1, false)) := by
  obtain ⟨v1, u1, o1⟩ := r1
  have c1 := evD_c h1
  have hne : ((u : Int) == (M : Int)) = false := by simp; omega
  have hw : IntKind.i64.wrap ((u : Int) + 1) = u + 1 := IntWalk.i64_in _ (by omega)
  have hw1 : IntKind.i64.wrap 1 = 1 := by decide
  have hw2 : IntKind.i64.wrap 2 = 2 := by decide
  have hw3 : IntKind.i64.wrap 3 = 3 := by decide
  cases o1 with
  | true =>
    simp at c1
    simp only [if_true]
    unfold EvD
    simp [Tm.raw]
    refine den_w (fn := Tryz.f65) (σ1 := [[.int .i64 u1, .int .i64 M, .bool true]]) (by rfl) (by rfl) (by kernel_rfl) rfl (by rfl) (by rfl) (by simp -implicitDefEqProofs) ?_
    simp -implicitDefEqProofs
    (repeat (first | refine Wp.seq ?_ | refine Wp.block ?_ | refine Wp.skip ?_ | refine Wp.exit ?_ | refine Wp.ret ?_ | refine thenK_n ?_ | refine thenK_r ?_ | refine thenK_e ?_ | refine blockK_n ?_ | refine blockK_r ?_ | refine blockK_e ?_ | refine blockK_o (by decide) ?_ | (refine Wp.condT ?_ ?_; focus (simp -implicitDefEqProofs [hne, hw, hw1, hw2, hw3, c1] <;> fail)) | (refine Wp.condF ?_ ?_; focus (simp -implicitDefEqProofs [hne, hw, hw1, hw2, hw3, c1] <;> fail)) | refine Wp.reg (by simp -implicitDefEqProofs [hne, hw, hw1, hw2, hw3, c1]; exact ⟨rfl, rfl⟩) ?_ | refine Wp.regA (by simp -implicitDefEqProofs [hne, hw, hw1, hw2, hw3, c1]; exact ⟨rfl, rfl⟩) (by rfl) ?_ | refine Wp.unroll ?_))
    (apply endK_r; (focus (simp -implicitDefEqProofs [Tryz.f65]; try rfl)); (focus (intro g; simp -implicitDefEqProofs [Tryz.f65])); exact ⟨_, rfl⟩)
  | false =>
    obtain ⟨e1, hk⟩ := hk rfl
    simp only at e1
    subst e1
    have hwk : IntKind.i64.wrap ((k : Int) + 1) = k + 1 := IntWalk.i64_in _ (by omega)
    simp at c1
    simp only [Bool.false_eq_true, if_false]
    unfold EvD
    simp [Tm.raw]
    refine den_w (fn := Tryz.f65) (σ1 := [[.int .i64 u1, .int .i64 M, .bool false]]) (by rfl) (by rfl) (by kernel_rfl) rfl (by rfl) (by rfl) (by simp -implicitDefEqProofs) ?_
    simp -implicitDefEqProofs
    (repeat (first | refine Wp.seq ?_ | refine Wp.block ?_ | refine Wp.skip ?_ | refine Wp.exit ?_ | refine Wp.ret ?_ | refine thenK_n ?_ | refine thenK_r ?_ | refine thenK_e ?_ | refine blockK_n ?_ | refine blockK_r ?_ | refine blockK_e ?_ | refine blockK_o (by decide) ?_ | (refine Wp.condT ?_ ?_; focus (simp -implicitDefEqProofs [hne, hw, hw1, hw2, hw3, c1, hwk] <;> fail)) | (refine Wp.condF ?_ ?_; focus (simp -implicitDefEqProofs [hne, hw, hw1, hw2, hw3, c1, hwk] <;> fail)) | refine Wp.reg (by simp -implicitDefEqProofs [hne, hw, hw1, hw2, hw3, c1, hwk]; exact ⟨rfl, rfl⟩) ?_ | refine Wp.regA (by simp -implicitDefEqProofs [hne, hw, hw1, hw2, hw3, c1, hwk]; exact ⟨rfl, rfl⟩) (by rfl) ?_ | refine Wp.unroll ?_))
    (apply endK_r; (focus (simp -implicitDefEqProofs [Tryz.f65]; try rfl)); (focus (intro g; simp -implicitDefEqProofs [Tryz.f65])); exact ⟨_, rfl⟩)
theorem eval_fst {M u : Nat} {e : List V} {a : Tm} {r1 : Ans} {x y : V} (hu : u < M) (hM : M ≤ 1000000) (h1 : EvD E M (u + 1) e a r1) (hk : r1.2.2 = false → r1.1 = .pair x y) :
    EvD E M u e (.fst a) (if r1.2.2 = true then (.unit, r1.2.1, true) else (x, r1.2.1, false)) := by
  obtain ⟨v1, u1, o1⟩ := r1
  have c1 := evD_c h1
  have hne : ((u : Int) == (M : Int)) = false := by simp; omega
  have hw : IntKind.i64.wrap ((u : Int) + 1) = u + 1 := IntWalk.i64_in _ (by omega)
  have hw1 : IntKind.i64.wrap 1 = 1 := by decide
  have hw2 : IntKind.i64.wrap 2 = 2 := by decide
  have hw3 : IntKind.i64.wrap 3 = 3 := by decide
  cases o1 with
  | true =>
    simp at c1
    simp only [if_true]
    unfold EvD
    simp [Tm.raw]
    refine den_w (fn := Tryz.f65) (σ1 := [[.int .i64 u1, .int .i64 M, .bool true]]) (by rfl) (by rfl) (by kernel_rfl) rfl (by rfl) (by rfl) (by simp -implicitDefEqProofs) ?_
    simp -implicitDefEqProofs
    (repeat (first | refine Wp.seq ?_ | refine Wp.block ?_ | refine Wp.skip ?_ | refine Wp.exit ?_ | refine Wp.ret ?_ | refine thenK_n ?_ | refine thenK_r ?_ | refine thenK_e ?_ | refine blockK_n ?_ | refine blockK_r ?_ | refine blockK_e ?_ | refine blockK_o (by decide) ?_ | (refine Wp.condT ?_ ?_; focus (simp -implicitDefEqProofs [hne, hw, hw1, hw2, hw3, c1] <;> fail)) | (refine Wp.condF ?_ ?_; focus (simp -implicitDefEqProofs [hne, hw, hw1, hw2, hw3, c1] <;> fail)) | refine Wp.reg (by simp -implicitDefEqProofs [hne, hw, hw1, hw2, hw3, c1]; exact ⟨rfl, rfl⟩) ?_ | refine Wp.regA (by simp -implicitDefEqProofs [hne, hw, hw1, hw2, hw3, c1]; exact ⟨rfl, rfl⟩) (by rfl) ?_ | refine Wp.unroll ?_))
    (apply endK_r; (focus (simp -implicitDefEqProofs [Tryz.f65]; try rfl)); (focus (intro g; simp -implicitDefEqProofs [Tryz.f65])); exact ⟨_, rfl⟩)
  | false =>
    have e1 := hk rfl
    simp only at e1
    subst e1
    simp at c1
    simp only [Bool.false_eq_true, if_false]
    unfold EvD
    simp [Tm.raw]
    refine den_w (fn := Tryz.f65) (σ1 := [[.int .i64 u1, .int .i64 M, .bool false]]) (by rfl) (by rfl) (by kernel_rfl) rfl (by rfl) (by rfl) (by simp -implicitDefEqProofs) ?_
    simp -implicitDefEqProofs
    (repeat (first | refine Wp.seq ?_ | refine Wp.block ?_ | refine Wp.skip ?_ | refine Wp.exit ?_ | refine Wp.ret ?_ | refine thenK_n ?_ | refine thenK_r ?_ | refine thenK_e ?_ | refine blockK_n ?_ | refine blockK_r ?_ | refine blockK_e ?_ | refine blockK_o (by decide) ?_ | (refine Wp.condT ?_ ?_; focus (simp -implicitDefEqProofs [hne, hw, hw1, hw2, hw3, c1] <;> fail)) | (refine Wp.condF ?_ ?_; focus (simp -implicitDefEqProofs [hne, hw, hw1, hw2, hw3, c1] <;> fail)) | refine Wp.reg (by simp -implicitDefEqProofs [hne, hw, hw1, hw2, hw3, c1]; exact ⟨rfl, rfl⟩) ?_ | refine Wp.regA (by simp -implicitDefEqProofs [hne, hw, hw1, hw2, hw3, c1]; exact ⟨rfl, rfl⟩) (by rfl) ?_ | refine Wp.unroll ?_))
    (apply endK_r; (focus (simp -implicitDefEqProofs [Tryz.f65]; try rfl)); (focus (intro g; simp -implicitDefEqProofs [Tryz.f65])); exact ⟨_, rfl⟩)
theorem eval_snd {M u : Nat} {e : List V} {a : Tm} {r1 : Ans} {x y : V} (hu : u < M) (hM : M ≤ 1000000) (h1 : EvD E M (u + 1) e a r1) (hk : r1.2.2 = false → r1.1 = .pair x y) :
    EvD E M u e (.snd a) (if r1.2.2 = true then (.unit, r1.2.1, true) else (y, r1.2.1, false)) := by
  obtain ⟨v1, u1, o1⟩ := r1
  have c1 := evD_c h1
  have hne : ((u : Int) == (M : Int)) = false := by simp; omega
  have hw : IntKind.i64.wrap ((u : Int) + 1) = u + 1 := IntWalk.i64_in _ (by omega)
  have hw1 : IntKind.i64.wrap 1 = 1 := by decide
  have hw2 : IntKind.i64.wrap 2 = 2 := by decide
  have hw3 : IntKind.i64.wrap 3 = 3 := by decide
  cases o1 with
  | true =>
    simp at c1
    simp only [if_true]
    unfold EvD
    simp [Tm.raw]
    refine den_w (fn := Tryz.f65) (σ1 := [[.int .i64 u1, .int .i64 M, .bool true]]) (by rfl) (by rfl) (by kernel_rfl) rfl (by rfl) (by rfl) (by simp -implicitDefEqProofs) ?_
    simp -implicitDefEqProofs
    (repeat (first | refine Wp.seq ?_ | refine Wp.block ?_ | refine Wp.skip ?_ | refine Wp.exit ?_ | refine Wp.ret ?_ | refine thenK_n ?_ | refine thenK_r ?_ | refine thenK_e ?_ | refine blockK_n ?_ | refine blockK_r ?_ | refine blockK_e ?_ | refine blockK_o (by decide) ?_ | (refine Wp.condT ?_ ?_; focus (simp -implicitDefEqProofs [hne, hw, hw1, hw2, hw3, c1] <;> fail)) | (refine Wp.condF ?_ ?_; focus (simp -implicitDefEqProofs [hne, hw, hw1, hw2, hw3, c1] <;> fail)) | refine Wp.reg (by simp -implicitDefEqProofs [hne, hw, hw1, hw2, hw3, c1]; exact ⟨rfl, rfl⟩) ?_ | refine Wp.regA (by simp -implicitDefEqProofs [hne, hw, hw1, hw2, hw3, c1]; exact ⟨rfl, rfl⟩) (by rfl) ?_ | refine Wp.unroll ?_))
    (apply endK_r; (focus (simp -implicitDefEqProofs [Tryz.f65]; try rfl)); (focus (intro g; simp -implicitDefEqProofs [Tryz.f65])); exact ⟨_, rfl⟩)
  | false =>
    have e1 := hk rfl
    simp only at e1
    subst e1
    simp at c1
    simp only [Bool.false_eq_true, if_false]
    unfold EvD
    simp [Tm.raw]
    refine den_w (fn := Tryz.f65) (σ1 := [[.int .i64 u1, .int .i64 M, .bool false]]) (by rfl) (by rfl) (by kernel_rfl) rfl (by rfl) (by rfl) (by simp -implicitDefEqProofs) ?_
    simp -implicitDefEqProofs
    (repeat (first | refine Wp.seq ?_ | refine Wp.block ?_ | refine Wp.skip ?_ | refine Wp.exit ?_ | refine Wp.ret ?_ | refine thenK_n ?_ | refine thenK_r ?_ | refine thenK_e ?_ | refine blockK_n ?_ | refine blockK_r ?_ | refine blockK_e ?_ | refine blockK_o (by decide) ?_ | (refine Wp.condT ?_ ?_; focus (simp -implicitDefEqProofs [hne, hw, hw1, hw2, hw3, c1] <;> fail)) | (refine Wp.condF ?_ ?_; focus (simp -implicitDefEqProofs [hne, hw, hw1, hw2, hw3, c1] <;> fail)) | refine Wp.reg (by simp -implicitDefEqProofs [hne, hw, hw1, hw2, hw3, c1]; exact ⟨rfl, rfl⟩) ?_ | refine Wp.regA (by simp -implicitDefEqProofs [hne, hw, hw1, hw2, hw3, c1]; exact ⟨rfl, rfl⟩) (by rfl) ?_ | refine Wp.unroll ?_))
    (apply endK_r; (focus (simp -implicitDefEqProofs [Tryz.f65]; try rfl)); (focus (intro g; simp -implicitDefEqProofs [Tryz.f65])); exact ⟨_, rfl⟩)
end M
end Go.Proofs.YthclcchnodjjpaaGreatDoor
/- ref06: eval, case by case (3). -/
set_option linter.unusedVariables false
set_option linter.unusedSimpArgs false
set_option maxRecDepth 10000
set_option maxHeartbeats 4000000
namespace Go.Proofs.YthclcchnodjjpaaGreatDoor
namespace M
attribute [local irreducible] Wp thenK blockK endK
variable {E : Oracle}
open T (V Ty Tm noTy Eval Ans evM evStep callV recU foldU roundR roundF)
attribute [local simp] noTy
theorem eval_pair {M u : Nat} {e : List V} {a b : Tm} {r1 r2 : Ans}  (hu : u < M) (hM : M ≤ 1000000) (h1 : EvD E M (u + 1) e a r1) (h2 : r1.2.2 = false → EvD E M r1.2.1 e b r2)  :
    EvD E M u e (.pair a b) (if r1.2.2 = true then (.unit, r1.2.1, true) else if r2.2.2 = true then (.unit, r2.2.1, true) else (.pair r1.1 r2.1, r2.2.1, false)) := by
  obtain ⟨v1, u1, o1⟩ := r1
  have c1 := evD_c h1
  have hne : ((u : Int) == (M : Int)) = false := by simp; omega
  have hw : IntKind.i64.wrap ((u : Int) + 1) = u + 1 := IntWalk.i64_in _ (by omega)
  have hw1 : IntKind.i64.wrap 1 = 1 := by decide
  have hw2 : IntKind.i64.wrap 2 = 2 := by decide
  have hw3 : IntKind.i64.wrap 3 = 3 := by decide
  cases o1 with
  | true =>
    simp at c1
    simp only [if_true]
    unfold EvD
    simp [Tm.raw]
    refine den_w (fn := Tryz.f65) (σ1 := [[.int .i64 u1, .int .i64 M, .bool true]]) (by rfl) (by rfl) (by kernel_rfl) rfl (by rfl) (by rfl) (by simp -implicitDefEqProofs) ?_
    simp -implicitDefEqProofs
    (repeat (first | refine Wp.seq ?_ | refine Wp.block ?_ | refine Wp.skip ?_ | refine Wp.exit ?_ | refine Wp.ret ?_ | refine thenK_n ?_ | refine thenK_r ?_ | refine thenK_e ?_ | refine blockK_n ?_ | refine blockK_r ?_ | refine blockK_e ?_ | refine blockK_o (by decide) ?_ | (refine Wp.condT ?_ ?_; focus (simp -implicitDefEqProofs [hne, hw, hw1, hw2, hw3, c1] <;> fail)) | (refine Wp.condF ?_ ?_; focus (simp -implicitDefEqProofs [hne, hw, hw1, hw2, hw3, c1] <;> fail)) | refine Wp.reg (by simp -implicitDefEqProofs [hne, hw, hw1, hw2, hw3, c1]; exact ⟨rfl, rfl⟩) ?_ | refine Wp.regA (by simp -implicitDefEqProofs [hne, hw, hw1, hw2, hw3, c1]; exact ⟨rfl, rfl⟩) (by rfl) ?_ | refine Wp.unroll ?_))
    (apply endK_r; (focus (simp -implicitDefEqProofs [Tryz.f65]; try rfl)); (focus (intro g; simp -implicitDefEqProofs [Tryz.f65])); exact ⟨_, rfl⟩)
  | false =>
    simp at c1
    have c2 := evD_c (h2 rfl)
    obtain ⟨v2, u2, o2⟩ := r2
    simp only [Bool.false_eq_true, if_false]
    cases o2 with
    | true =>
      simp at c2
      simp only [if_true]
      unfold EvD
      simp [Tm.raw]
      refine den_w (fn := Tryz.f65) (σ1 := [[.int .i64 u2, .int .i64 M, .bool true]]) (by rfl) (by rfl) (by kernel_rfl) rfl (by rfl) (by rfl) (by simp -implicitDefEqProofs) ?_
      simp -implicitDefEqProofs
      (repeat (first | refine Wp.seq ?_ | refine Wp.block ?_ | refine Wp.skip ?_ | refine Wp.exit ?_ | refine Wp.ret ?_ | refine thenK_n ?_ | refine thenK_r ?_ | refine thenK_e ?_ | refine blockK_n ?_ | refine blockK_r ?_ | refine blockK_e ?_ | refine blockK_o (by decide) ?_ | (refine Wp.condT ?_ ?_; focus (simp -implicitDefEqProofs [hne, hw, hw1, hw2, hw3, c1, c2] <;> fail)) | (refine Wp.condF ?_ ?_; focus (simp -implicitDefEqProofs [hne, hw, hw1, hw2, hw3, c1, c2] <;> fail)) | refine Wp.reg (by simp -implicitDefEqProofs [hne, hw, hw1, hw2, hw3, c1, c2]; exact ⟨rfl, rfl⟩) ?_ | refine Wp.regA (by simp -implicitDefEqProofs [hne, hw, hw1, hw2, hw3, c1, c2]; exact ⟨rfl, rfl⟩) (by rfl) ?_ | refine Wp.unroll ?_))
      (apply endK_r; (focus (simp -implicitDefEqProofs [Tryz.f65]; try rfl)); (focus (intro g; simp -implicitDefEqProofs [Tryz.f65])); exact ⟨_, rfl⟩)
    | false =>
      skip
      simp at c2
      simp only [Bool.false_eq_true, if_false]
      unfold EvD
      simp [Tm.raw]
      refine den_w (fn := Tryz.f65) (σ1 := [[.int .i64 u2, .int .i64 M, .bool false]]) (by rfl) (by rfl) (by kernel_rfl) rfl (by rfl) (by rfl) (by simp -implicitDefEqProofs) ?_
      simp -implicitDefEqProofs
      (repeat (first | refine Wp.seq ?_ | refine Wp.block ?_ | refine Wp.skip ?_ | refine Wp.exit ?_ | refine Wp.ret ?_ | refine thenK_n ?_ | refine thenK_r ?_ | refine thenK_e ?_ | refine blockK_n ?_ | refine blockK_r ?_ | refine blockK_e ?_ | refine blockK_o (by decide) ?_ | (refine Wp.condT ?_ ?_; focus (simp -implicitDefEqProofs [hne, hw, hw1, hw2, hw3, c1, c2] <;> fail)) | (refine Wp.condF ?_ ?_; focus (simp -implicitDefEqProofs [hne, hw, hw1, hw2, hw3, c1, c2] <;> fail)) | refine Wp.reg (by simp -implicitDefEqProofs [hne, hw, hw1, hw2, hw3, c1, c2]; exact ⟨rfl, rfl⟩) ?_ | refine Wp.regA (by simp -implicitDefEqProofs [hne, hw, hw1, hw2, hw3, c1, c2]; exact ⟨rfl, rfl⟩) (by rfl) ?_ | refine Wp.unroll ?_))
      (apply endK_r; (focus (simp -implicitDefEqProofs [Tryz.f65]; try rfl)); (focus (intro g; simp -implicitDefEqProofs [Tryz.f65])); exact ⟨_, rfl⟩)
theorem eval_cons {M u : Nat} {e : List V} {a b : Tm} {r1 r2 : Ans} {k : Nat} {l : List Nat} (hu : u < M) (hM : M ≤ 1000000) (h1 : EvD E M (u + 1) e a r1) (h2 : r1.2.2 = false → EvD E M r1.2.1 e b r2) (hk : r1.2.2 = false → r2.2.2 = false → r1.1 = .num k ∧ r2.1 = .list l ∧ l.length ≤ 1000000000) :
    EvD E M u e (.cons a b) (if r1.2.2 = true then (.unit, r1.2.1, true) else if r2.2.2 = true then (.unit, r2.2.1, true) else (.list (k :: l), r2.2.1, false)) := by
  obtain ⟨v1, u1, o1⟩ := r1
  have c1 := evD_c h1
  have hne : ((u : Int) == (M : Int)) = false := by simp; omega
  have hw : IntKind.i64.wrap ((u : Int) + 1) = u + 1 := IntWalk.i64_in _ (by omega)
  have hw1 : IntKind.i64.wrap 1 = 1 := by decide
  have hw2 : IntKind.i64.wrap 2 = 2 := by decide
  have hw3 : IntKind.i64.wrap 3 = 3 := by decide
  cases o1 with
  | true =>
    simp at c1
    simp only [if_true]
    unfold EvD
    simp [Tm.raw]
    refine den_w (fn := Tryz.f65) (σ1 := [[.int .i64 u1, .int .i64 M, .bool true]]) (by rfl) (by rfl) (by kernel_rfl) rfl (by rfl) (by rfl) (by simp -implicitDefEqProofs) ?_
    simp -implicitDefEqProofs
    (repeat (first | refine Wp.seq ?_ | refine Wp.block ?_ | refine Wp.skip ?_ | refine Wp.exit ?_ | refine Wp.ret ?_ | refine thenK_n ?_ | refine thenK_r ?_ | refine thenK_e ?_ | refine blockK_n ?_ | refine blockK_r ?_ | refine blockK_e ?_ | refine blockK_o (by decide) ?_ | (refine Wp.condT ?_ ?_; focus (simp -implicitDefEqProofs [hne, hw, hw1, hw2, hw3, c1] <;> fail)) | (refine Wp.condF ?_ ?_; focus (simp -implicitDefEqProofs [hne, hw, hw1, hw2, hw3, c1] <;> fail)) | refine Wp.reg (by simp -implicitDefEqProofs [hne, hw, hw1, hw2, hw3, c1]; exact ⟨rfl, rfl⟩) ?_ | refine Wp.regA (by simp -implicitDefEqProofs [hne, hw, hw1, hw2, hw3, c1]; exact ⟨rfl, rfl⟩) (by rfl) ?_ | refine Wp.unroll ?_))
    (apply endK_r; (focus (simp -implicitDefEqProofs [Tryz.f65]; try rfl)); (focus (intro g; simp -implicitDefEqProofs [Tryz.f65])); exact ⟨_, rfl⟩)
  | false =>
    simp at c1
    have c2 := evD_c (h2 rfl)
    obtain ⟨v2, u2, o2⟩ := r2
    simp only [Bool.false_eq_true, if_false]
    cases o2 with
    | true =>
      simp at c2
      simp only [if_true]
      unfold EvD
      simp [Tm.raw]
      refine den_w (fn := Tryz.f65) (σ1 := [[.int .i64 u2, .int .i64 M, .bool true]]) (by rfl) (by rfl) (by kernel_rfl) rfl (by rfl) (by rfl) (by simp -implicitDefEqProofs) ?_
      simp -implicitDefEqProofs
      (repeat (first | refine Wp.seq ?_ | refine Wp.block ?_ | refine Wp.skip ?_ | refine Wp.exit ?_ | refine Wp.ret ?_ | refine thenK_n ?_ | refine thenK_r ?_ | refine thenK_e ?_ | refine blockK_n ?_ | refine blockK_r ?_ | refine blockK_e ?_ | refine blockK_o (by decide) ?_ | (refine Wp.condT ?_ ?_; focus (simp -implicitDefEqProofs [hne, hw, hw1, hw2, hw3, c1, c2] <;> fail)) | (refine Wp.condF ?_ ?_; focus (simp -implicitDefEqProofs [hne, hw, hw1, hw2, hw3, c1, c2] <;> fail)) | refine Wp.reg (by simp -implicitDefEqProofs [hne, hw, hw1, hw2, hw3, c1, c2]; exact ⟨rfl, rfl⟩) ?_ | refine Wp.regA (by simp -implicitDefEqProofs [hne, hw, hw1, hw2, hw3, c1, c2]; exact ⟨rfl, rfl⟩) (by rfl) ?_ | refine Wp.unroll ?_))
      (apply endK_r; (focus (simp -implicitDefEqProofs [Tryz.f65]; try rfl)); (focus (intro g; simp -implicitDefEqProofs [Tryz.f65])); exact ⟨_, rfl⟩)
    | false =>
      obtain ⟨e1, e2, hl⟩ := hk rfl rfl
      simp only at e1 e2
      subst e1 e2
      have hr1 : (1 + (l.length)) * 8 ≤ 70368744177664 := by omega
      simp at c1
      simp only [Bool.false_eq_true, if_false]
      rcases l with _ | ⟨x, l⟩
      · simp at c2
        unfold EvD
        simp [Tm.raw]
        refine den_w (fn := Tryz.f65) (σ1 := [[.int .i64 u2, .int .i64 M, .bool false]]) (by rfl) (by rfl) (by kernel_rfl) rfl (by rfl) (by rfl) (by simp -implicitDefEqProofs) ?_
        simp -implicitDefEqProofs
        (repeat (first | refine Wp.seq ?_ | refine Wp.block ?_ | refine Wp.skip ?_ | refine Wp.exit ?_ | refine Wp.ret ?_ | refine thenK_n ?_ | refine thenK_r ?_ | refine thenK_e ?_ | refine blockK_n ?_ | refine blockK_r ?_ | refine blockK_e ?_ | refine blockK_o (by decide) ?_ | (refine Wp.condT ?_ ?_; focus (simp -implicitDefEqProofs [hne, hw, hw1, hw2, hw3, c1, c2] <;> fail)) | (refine Wp.condF ?_ ?_; focus (simp -implicitDefEqProofs [hne, hw, hw1, hw2, hw3, c1, c2] <;> fail)) | refine Wp.reg (by simp -implicitDefEqProofs [hne, hw, hw1, hw2, hw3, c1, c2]; exact ⟨rfl, rfl⟩) ?_ | refine Wp.regA (by simp -implicitDefEqProofs [hne, hw, hw1, hw2, hw3, c1, c2]; exact ⟨rfl, rfl⟩) (by rfl) ?_ | refine Wp.unroll ?_))
        (apply endK_r; (focus (simp -implicitDefEqProofs [Tryz.f65]; try rfl)); (focus (intro g; simp -implicitDefEqProofs [Tryz.f65])); exact ⟨_, rfl⟩)
      · simp at c2 hr1
        unfold EvD
        simp [Tm.raw]
        refine den_w (fn := Tryz.f65) (σ1 := [[.int .i64 u2, .int .i64 M, .bool false]]) (by rfl) (by rfl) (by kernel_rfl) rfl (by rfl) (by rfl) (by simp -implicitDefEqProofs) ?_
        simp -implicitDefEqProofs
        (repeat (first | refine Wp.seq ?_ | refine Wp.block ?_ | refine Wp.skip ?_ | refine Wp.exit ?_ | refine Wp.ret ?_ | refine thenK_n ?_ | refine thenK_r ?_ | refine thenK_e ?_ | refine blockK_n ?_ | refine blockK_r ?_ | refine blockK_e ?_ | refine blockK_o (by decide) ?_ | (refine Wp.condT ?_ ?_; focus (simp -implicitDefEqProofs [hne, hw, hw1, hw2, hw3, c1, c2, hr1] <;> fail)) | (refine Wp.condF ?_ ?_; focus (simp -implicitDefEqProofs [hne, hw, hw1, hw2, hw3, c1, c2, hr1] <;> fail)) | refine Wp.reg (by simp -implicitDefEqProofs [hne, hw, hw1, hw2, hw3, c1, c2, hr1]; exact ⟨rfl, rfl⟩) ?_ | refine Wp.regA (by simp -implicitDefEqProofs [hne, hw, hw1, hw2, hw3, c1, c2, hr1]; exact ⟨rfl, rfl⟩) (by rfl) ?_ | refine Wp.unroll ?_))
        (apply endK_r; (focus (simp -implicitDefEqProofs [Tryz.f65]; try rfl)); (focus (intro g; simp -implicitDefEqProofs [Tryz.f65])); exact ⟨_, rfl⟩)
end M
end Go.Proofs.YthclcchnodjjpaaGreatDoor
/- ref06: eval, case by case (4). -/
set_option linter.unusedVariables false
set_option linter.unusedSimpArgs false
set_option maxRecDepth 10000
set_option maxHeartbeats 4000000
namespace Go.Proofs.YthclcchnodjjpaaGreatDoor
namespace M
attribute [local irreducible] Wp thenK blockK endK
variable {E : Oracle}
open T (V Ty Tm noTy Eval Ans evM evStep callV recU foldU roundR roundF)
attribute [local simp] noTy
theorem eval_app {M u : Nat} {e : List V} {a b : Tm} {r1 r2 r3 : Ans}  (hu : u < M) (hM : M ≤ 1000000) (h1 : EvD E M (u + 1) e a r1) (h2 : r1.2.2 = false → EvD E M r1.2.1 e b r2) (h3 : r1.2.2 = false → r2.2.2 = false → CaD E M r2.2.1 r1.1 r2.1 r3) :
    EvD E M u e (.app a b) (if r1.2.2 = true then (.unit, r1.2.1, true) else if r2.2.2 = true then (.unit, r2.2.1, true) else r3) := by
  obtain ⟨v1, u1, o1⟩ := r1
  have c1 := evD_c h1
  have hne : ((u : Int) == (M : Int)) = false := by simp; omega
  have hw : IntKind.i64.wrap ((u : Int) + 1) = u + 1 := IntWalk.i64_in _ (by omega)
  have hw1 : IntKind.i64.wrap 1 = 1 := by decide
  have hw2 : IntKind.i64.wrap 2 = 2 := by decide
  have hw3 : IntKind.i64.wrap 3 = 3 := by decide
  cases o1 with
  | true =>
    simp at c1
    simp only [if_true]
    unfold EvD
    simp [Tm.raw]
    refine den_w (fn := Tryz.f65) (σ1 := [[.int .i64 u1, .int .i64 M, .bool true]]) (by rfl) (by rfl) (by kernel_rfl) rfl (by rfl) (by rfl) (by simp -implicitDefEqProofs) ?_
    simp -implicitDefEqProofs
    (repeat (first | refine Wp.seq ?_ | refine Wp.block ?_ | refine Wp.skip ?_ | refine Wp.exit ?_ | refine Wp.ret ?_ | refine thenK_n ?_ | refine thenK_r ?_ | refine thenK_e ?_ | refine blockK_n ?_ | refine blockK_r ?_ | refine blockK_e ?_ | refine blockK_o (by decide) ?_ | (refine Wp.condT ?_ ?_; focus (simp -implicitDefEqProofs [hne, hw, hw1, hw2, hw3, c1] <;> fail)) | (refine Wp.condF ?_ ?_; focus (simp -implicitDefEqProofs [hne, hw, hw1, hw2, hw3, c1] <;> fail)) | refine Wp.reg (by simp -implicitDefEqProofs [hne, hw, hw1, hw2, hw3, c1]; exact ⟨rfl, rfl⟩) ?_ | refine Wp.regA (by simp -implicitDefEqProofs [hne, hw, hw1, hw2, hw3, c1]; exact ⟨rfl, rfl⟩) (by rfl) ?_ | refine Wp.unroll ?_))
    (apply endK_r; (focus (simp -implicitDefEqProofs [Tryz.f65]; try rfl)); (focus (intro g; simp -implicitDefEqProofs [Tryz.f65])); exact ⟨_, rfl⟩)
  | false =>
    simp at c1
    have c2 := evD_c (h2 rfl)
    obtain ⟨v2, u2, o2⟩ := r2
    simp only [Bool.false_eq_true, if_false]
    cases o2 with
    | true =>
      simp at c2
      simp only [if_true]
      unfold EvD
      simp [Tm.raw]
      refine den_w (fn := Tryz.f65) (σ1 := [[.int .i64 u2, .int .i64 M, .bool true]]) (by rfl) (by rfl) (by kernel_rfl) rfl (by rfl) (by rfl) (by simp -implicitDefEqProofs) ?_
      simp -implicitDefEqProofs
      (repeat (first | refine Wp.seq ?_ | refine Wp.block ?_ | refine Wp.skip ?_ | refine Wp.exit ?_ | refine Wp.ret ?_ | refine thenK_n ?_ | refine thenK_r ?_ | refine thenK_e ?_ | refine blockK_n ?_ | refine blockK_r ?_ | refine blockK_e ?_ | refine blockK_o (by decide) ?_ | (refine Wp.condT ?_ ?_; focus (simp -implicitDefEqProofs [hne, hw, hw1, hw2, hw3, c1, c2] <;> fail)) | (refine Wp.condF ?_ ?_; focus (simp -implicitDefEqProofs [hne, hw, hw1, hw2, hw3, c1, c2] <;> fail)) | refine Wp.reg (by simp -implicitDefEqProofs [hne, hw, hw1, hw2, hw3, c1, c2]; exact ⟨rfl, rfl⟩) ?_ | refine Wp.regA (by simp -implicitDefEqProofs [hne, hw, hw1, hw2, hw3, c1, c2]; exact ⟨rfl, rfl⟩) (by rfl) ?_ | refine Wp.unroll ?_))
      (apply endK_r; (focus (simp -implicitDefEqProofs [Tryz.f65]; try rfl)); (focus (intro g; simp -implicitDefEqProofs [Tryz.f65])); exact ⟨_, rfl⟩)
    | false =>
      have c3 := caD_c (h3 rfl rfl)
      simp at c2 c3
      simp only [Bool.false_eq_true, if_false]
      unfold EvD
      simp [Tm.raw]
      refine den_w (fn := Tryz.f65) (σ1 := [[.int .i64 r3.2.1, .int .i64 M, .bool r3.2.2]]) (by rfl) (by rfl) (by kernel_rfl) rfl (by rfl) (by rfl) (by simp -implicitDefEqProofs) ?_
      simp -implicitDefEqProofs
      (repeat (first | refine Wp.seq ?_ | refine Wp.block ?_ | refine Wp.skip ?_ | refine Wp.exit ?_ | refine Wp.ret ?_ | refine thenK_n ?_ | refine thenK_r ?_ | refine thenK_e ?_ | refine blockK_n ?_ | refine blockK_r ?_ | refine blockK_e ?_ | refine blockK_o (by decide) ?_ | (refine Wp.condT ?_ ?_; focus (simp -implicitDefEqProofs [hne, hw, hw1, hw2, hw3, c1, c2, c3] <;> fail)) | (refine Wp.condF ?_ ?_; focus (simp -implicitDefEqProofs [hne, hw, hw1, hw2, hw3, c1, c2, c3] <;> fail)) | refine Wp.reg (by simp -implicitDefEqProofs [hne, hw, hw1, hw2, hw3, c1, c2, c3]; exact ⟨rfl, rfl⟩) ?_ | refine Wp.regA (by simp -implicitDefEqProofs [hne, hw, hw1, hw2, hw3, c1, c2, c3]; exact ⟨rfl, rfl⟩) (by rfl) ?_ | refine Wp.unroll ?_))
      (apply endK_r; (focus (simp -implicitDefEqProofs [Tryz.f65]; try rfl)); (focus (intro g; simp -implicitDefEqProofs [Tryz.f65])); exact ⟨_, rfl⟩)
end M
end Go.Proofs.YthclcchnodjjpaaGreatDoor
/- ref06: eval, case by case (5). -/
set_option linter.unusedVariables false
set_option linter.unusedSimpArgs false
set_option maxRecDepth 10000
set_option maxHeartbeats 4000000
namespace Go.Proofs.YthclcchnodjjpaaGreatDoor
namespace M
attribute [local irreducible] Wp thenK blockK endK
variable {E : Oracle}
open T (V Ty Tm noTy Eval Ans evM evStep callV recU foldU roundR roundF)
attribute [local simp] noTy
theorem eval_recn {M u : Nat} {e : List V} {s : Ty} {b f c : Tm} {r1 r2 r3 : Ans} {k : Nat} {q : Nat → Ans} (hu : u < M) (hM : M ≤ 1000000) (h1 : EvD E M (u + 1) e b r1) (h2 : r1.2.2 = false → EvD E M r1.2.1 e f r2) (h3 : r1.2.2 = false → r2.2.2 = false → EvD E M r2.2.1 e c r3)
    (hk : r1.2.2 = false → r2.2.2 = false → r3.2.2 = false → r3.1 = .num k ∧ k ≤ 1000000000)
    (hq0 : q 0 = (r1.1, r3.2.1, false)) (hqo : ∀ j, (q j).2.2 = true → q (j + 1) = q j)
    (hqs : ∀ j < k, (q j).2.2 = false → ∃ d, CaD E M (q j).2.1 r2.1 (.num j) d ∧ (if d.2.2 = true then q (j + 1) = ((q j).1, d.2.1, true) else CaD E M d.2.1 d.1 (q j).1 (q (j + 1)))) :
    EvD E M u e (.recn s b f c) (if r1.2.2 = true then (.unit, r1.2.1, true) else if r2.2.2 = true then (.unit, r2.2.1, true) else if r3.2.2 = true then (.unit, r3.2.1, true) else q k) := by
  obtain ⟨v1, u1, o1⟩ := r1
  have c1 := evD_c h1
  have hne : ((u : Int) == (M : Int)) = false := by simp; omega
  have hw : IntKind.i64.wrap ((u : Int) + 1) = u + 1 := IntWalk.i64_in _ (by omega)
  have hw1 : IntKind.i64.wrap 1 = 1 := by decide
  have hw2 : IntKind.i64.wrap 2 = 2 := by decide
  have hw3 : IntKind.i64.wrap 3 = 3 := by decide
  cases o1 with
  | true =>
    simp at c1
    simp only [if_true]
    unfold EvD
    simp [Tm.raw]
    refine den_w (fn := Tryz.f65) (σ1 := [[.int .i64 u1, .int .i64 M, .bool true]]) (by rfl) (by rfl) (by kernel_rfl) rfl (by rfl) (by rfl) (by simp -implicitDefEqProofs) ?_
    simp -implicitDefEqProofs
    (repeat (first | refine Wp.seq ?_ | refine Wp.block ?_ | refine Wp.skip ?_ | refine Wp.exit ?_ | refine Wp.ret ?_ | refine thenK_n ?_ | refine thenK_r ?_ | refine thenK_e ?_ | refine blockK_n ?_ | refine blockK_r ?_ | refine blockK_e ?_ | refine blockK_o (by decide) ?_ | (refine Wp.condT ?_ ?_; focus (simp -implicitDefEqProofs [hne, hw, hw1, hw2, hw3, c1] <;> fail)) | (refine Wp.condF ?_ ?_; focus (simp -implicitDefEqProofs [hne, hw, hw1, hw2, hw3, c1] <;> fail)) | refine Wp.reg (by simp -implicitDefEqProofs [hne, hw, hw1, hw2, hw3, c1]; exact ⟨rfl, rfl⟩) ?_ | refine Wp.regA (by simp -implicitDefEqProofs [hne, hw, hw1, hw2, hw3, c1]; exact ⟨rfl, rfl⟩) (by rfl) ?_ | refine Wp.unroll ?_))
    (apply endK_r; (focus (simp -implicitDefEqProofs [Tryz.f65]; try rfl)); (focus (intro g; simp -implicitDefEqProofs [Tryz.f65])); exact ⟨_, rfl⟩)
  | false =>
    simp at c1
    have c2 := evD_c (h2 rfl)
    obtain ⟨v2, u2, o2⟩ := r2
    simp only [Bool.false_eq_true, if_false]
    cases o2 with
    | true =>
      simp at c2
      simp only [if_true]
      unfold EvD
      simp [Tm.raw]
      refine den_w (fn := Tryz.f65) (σ1 := [[.int .i64 u2, .int .i64 M, .bool true]]) (by rfl) (by rfl) (by kernel_rfl) rfl (by rfl) (by rfl) (by simp -implicitDefEqProofs) ?_
      simp -implicitDefEqProofs
      (repeat (first | refine Wp.seq ?_ | refine Wp.block ?_ | refine Wp.skip ?_ | refine Wp.exit ?_ | refine Wp.ret ?_ | refine thenK_n ?_ | refine thenK_r ?_ | refine thenK_e ?_ | refine blockK_n ?_ | refine blockK_r ?_ | refine blockK_e ?_ | refine blockK_o (by decide) ?_ | (refine Wp.condT ?_ ?_; focus (simp -implicitDefEqProofs [hne, hw, hw1, hw2, hw3, c1, c2] <;> fail)) | (refine Wp.condF ?_ ?_; focus (simp -implicitDefEqProofs [hne, hw, hw1, hw2, hw3, c1, c2] <;> fail)) | refine Wp.reg (by simp -implicitDefEqProofs [hne, hw, hw1, hw2, hw3, c1, c2]; exact ⟨rfl, rfl⟩) ?_ | refine Wp.regA (by simp -implicitDefEqProofs [hne, hw, hw1, hw2, hw3, c1, c2]; exact ⟨rfl, rfl⟩) (by rfl) ?_ | refine Wp.unroll ?_))
      (apply endK_r; (focus (simp -implicitDefEqProofs [Tryz.f65]; try rfl)); (focus (intro g; simp -implicitDefEqProofs [Tryz.f65])); exact ⟨_, rfl⟩)
    | false =>
      simp at c2
      have c3 := evD_c (h3 rfl rfl)
      obtain ⟨v3, u3, o3⟩ := r3
      simp only [Bool.false_eq_true, if_false]
      cases o3 with
      | true =>
        simp at c3
        simp only [if_true]
        unfold EvD
        simp [Tm.raw]
        refine den_w (fn := Tryz.f65) (σ1 := [[.int .i64 u3, .int .i64 M, .bool true]]) (by rfl) (by rfl) (by kernel_rfl) rfl (by rfl) (by rfl) (by simp -implicitDefEqProofs) ?_
        simp -implicitDefEqProofs
        (repeat (first | refine Wp.seq ?_ | refine Wp.block ?_ | refine Wp.skip ?_ | refine Wp.exit ?_ | refine Wp.ret ?_ | refine thenK_n ?_ | refine thenK_r ?_ | refine thenK_e ?_ | refine blockK_n ?_ | refine blockK_r ?_ | refine blockK_e ?_ | refine blockK_o (by decide) ?_ | (refine Wp.condT ?_ ?_; focus (simp -implicitDefEqProofs [hne, hw, hw1, hw2, hw3, c1, c2, c3] <;> fail)) | (refine Wp.condF ?_ ?_; focus (simp -implicitDefEqProofs [hne, hw, hw1, hw2, hw3, c1, c2, c3] <;> fail)) | refine Wp.reg (by simp -implicitDefEqProofs [hne, hw, hw1, hw2, hw3, c1, c2, c3]; exact ⟨rfl, rfl⟩) ?_ | refine Wp.regA (by simp -implicitDefEqProofs [hne, hw, hw1, hw2, hw3, c1, c2, c3]; exact ⟨rfl, rfl⟩) (by rfl) ?_ | refine Wp.unroll ?_))
        (apply endK_r; (focus (simp -implicitDefEqProofs [Tryz.f65]; try rfl)); (focus (intro g; simp -implicitDefEqProofs [Tryz.f65])); exact ⟨_, rfl⟩)
      | false =>
        obtain ⟨e3, hk2⟩ := hk rfl rfl rfl
        simp only at e3
        subst e3
        simp only [Bool.false_eq_true, if_false]
        simp only at hq0 hqs
        simp at c3
        clear h1 h2 h3 hk
        unfold EvD
        obtain ⟨x0, σ0, hx0, hσ0⟩ : ∃ x0 σ0, x0 = RX.enc (V.rx (q k).1) ∧ σ0 = [[AV.int .i64 (q k).2.1, .int .i64 M, .bool (q k).2.2]] := ⟨_, _, rfl, rfl⟩
        rw [← hx0, ← hσ0]
        simp [Tm.raw]
        refine den_w (fn := Tryz.f65) (σ1 := σ0) (by rfl) (by rfl) (by kernel_rfl) rfl (by rfl) (by rw [hσ0]; rfl) (by rw [hσ0]; simp) ?_
        simp
        (repeat (first | refine Wp.seq ?_ | refine Wp.skip ?_ | refine Wp.exit ?_ | refine Wp.ret ?_ | refine thenK_n ?_ | refine thenK_r ?_ | refine thenK_e ?_ | refine blockK_n ?_ | refine blockK_r ?_ | refine blockK_e ?_ | refine blockK_o (by decide) ?_ | (refine Wp.condT ?_ ?_; focus (simp -implicitDefEqProofs [hne, hw] <;> fail)) | (refine Wp.condF ?_ ?_; focus (simp -implicitDefEqProofs [hne, hw] <;> fail)) | refine Wp.reg (by simp -implicitDefEqProofs [hne, hw]; exact ⟨rfl, rfl⟩) ?_ | refine Wp.regA (by simp -implicitDefEqProofs [hne, hw]; exact ⟨rfl, rfl⟩) (by rfl) ?_))
        refine Wp.block ?_
        refine Wp.unroll ?_
        (repeat (first | refine Wp.seq ?_ | refine Wp.block ?_ | refine Wp.skip ?_ | refine Wp.exit ?_ | refine Wp.ret ?_ | refine thenK_n ?_ | refine thenK_r ?_ | refine thenK_e ?_ | refine blockK_n ?_ | refine blockK_r ?_ | refine blockK_e ?_ | refine blockK_o (by decide) ?_ | (refine Wp.condT ?_ ?_; focus (simp -implicitDefEqProofs [hne, hw, hw1, c1] <;> fail)) | (refine Wp.condF ?_ ?_; focus (simp -implicitDefEqProofs [hne, hw, hw1, c1] <;> fail)) | refine Wp.reg (by simp -implicitDefEqProofs [hne, hw, hw1, c1]; exact ⟨rfl, rfl⟩) ?_ | refine Wp.regA (by simp -implicitDefEqProofs [hne, hw, hw1, c1]; exact ⟨rfl, rfl⟩) (by rfl) ?_))
        refine Wp.unroll ?_
        (repeat (first | refine Wp.seq ?_ | refine Wp.block ?_ | refine Wp.skip ?_ | refine Wp.exit ?_ | refine Wp.ret ?_ | refine thenK_n ?_ | refine thenK_r ?_ | refine thenK_e ?_ | refine blockK_n ?_ | refine blockK_r ?_ | refine blockK_e ?_ | refine blockK_o (by decide) ?_ | (refine Wp.condT ?_ ?_; focus (simp -implicitDefEqProofs [hw2, c2] <;> fail)) | (refine Wp.condF ?_ ?_; focus (simp -implicitDefEqProofs [hw2, c2] <;> fail)) | refine Wp.reg (by simp -implicitDefEqProofs [hw2, c2]; exact ⟨rfl, rfl⟩) ?_ | refine Wp.regA (by simp -implicitDefEqProofs [hw2, c2]; exact ⟨rfl, rfl⟩) (by rfl) ?_))
        refine Wp.unroll ?_
        (repeat (first | refine Wp.seq ?_ | refine Wp.block ?_ | refine Wp.skip ?_ | refine Wp.exit ?_ | refine Wp.ret ?_ | refine thenK_n ?_ | refine thenK_r ?_ | refine thenK_e ?_ | refine blockK_n ?_ | refine blockK_r ?_ | refine blockK_e ?_ | refine blockK_o (by decide) ?_ | (refine Wp.condT ?_ ?_; focus (simp -implicitDefEqProofs [hw3, c3] <;> fail)) | (refine Wp.condF ?_ ?_; focus (simp -implicitDefEqProofs [hw3, c3] <;> fail)) | refine Wp.reg (by simp -implicitDefEqProofs [hw3, c3]; exact ⟨rfl, rfl⟩) ?_ | refine Wp.regA (by simp -implicitDefEqProofs [hw3, c3]; exact ⟨rfl, rfl⟩) (by rfl) ?_))
        refine Wp.unroll ?_
        (repeat (first | refine Wp.seq ?_ | refine Wp.block ?_ | refine Wp.skip ?_ | refine Wp.exit ?_ | refine Wp.ret ?_ | refine thenK_n ?_ | refine thenK_r ?_ | refine thenK_e ?_ | refine blockK_n ?_ | refine blockK_r ?_ | refine blockK_e ?_ | refine blockK_o (by decide) ?_ | (refine Wp.condT ?_ ?_; focus (simp -implicitDefEqProofs <;> fail)) | (refine Wp.condF ?_ ?_; focus (simp -implicitDefEqProofs <;> fail)) | refine Wp.reg (by simp -implicitDefEqProofs; exact ⟨rfl, rfl⟩) ?_ | refine Wp.regA (by simp -implicitDefEqProofs; exact ⟨rfl, rfl⟩) (by rfl) ?_))
        refine Wp.loopF [11, 12, 108, 109, 110, 111, 112, 113, 114, 115, 116, 117, 118, 119, 120, 121, 122, 123, 124, 125, 126, 127, 128, 129, 130, 131, 132, 133, 134, 135, 136, 137, 138] [0, 6] (fun n w c tk => ∃ j, n = k - j ∧ j ≤ k ∧ w 11 = .int .i64 j ∧ c 0 = [.int .i64 (q j).2.1, .int .i64 M, .bool (q j).2.2] ∧ c 6 = (V.rx (q j).1).cells) (k) ?_ ?_ ?_ ?_
        · rfl
        · rfl
        · exact ⟨0, rfl, Nat.zero_le _, rfl, by simp [hq0], by simp [hq0]⟩
        rintro n w cc junk tk r σ ⟨j, rfl, hj, h11, hc0, hc6⟩ hr hσ
        obtain ⟨p, hp⟩ : ∃ p, q j = p := ⟨_, rfl⟩
        rw [hp] at hc0 hc6
        obtain ⟨pv, pu, po⟩ := p
        simp -implicitDefEqProofs [h11, hc0, hc6] at hr hσ
        subst hr hσ
        cases po with
        | true =>
          have hstay : ∀ d, q (j + d) = q j := by
            intro d
            induction d with
            | zero => rfl
            | succ d ihd => rw [← ihd]; exact hqo (j + d) (by rw [ihd, hp])
          have hkj : q k = (pv, pu, true) := by rw [← hp, ← hstay (k - j)]; congr 1; omega
          rw [hkj] at hx0 hσ0
          simp at hx0 hσ0
          subst hx0 hσ0
          by_cases hjk : (j : Int) < k
          · (repeat (first | refine Wp.seq ?_ | refine Wp.block ?_ | refine Wp.skip ?_ | refine Wp.exit ?_ | refine Wp.ret ?_ | refine thenK_n ?_ | refine thenK_r ?_ | refine thenK_e ?_ | refine blockK_n ?_ | refine blockK_r ?_ | refine blockK_e ?_ | refine blockK_o (by decide) ?_ | (refine Wp.condT ?_ ?_; focus (simp -implicitDefEqProofs [hjk] <;> fail)) | (refine Wp.condF ?_ ?_; focus (simp -implicitDefEqProofs [hjk] <;> fail)) | refine Wp.reg (by simp -implicitDefEqProofs [hjk]; exact ⟨rfl, rfl⟩) ?_ | refine Wp.regA (by simp -implicitDefEqProofs [hjk]; exact ⟨rfl, rfl⟩) (by rfl) ?_))
            (apply endK_r; (focus (simp -implicitDefEqProofs [Tryz.f65]; try rfl)); (focus (intro g; simp -implicitDefEqProofs [Tryz.f65])); exact ⟨_, rfl⟩)
          · (repeat (first | refine Wp.seq ?_ | refine Wp.block ?_ | refine Wp.skip ?_ | refine Wp.exit ?_ | refine Wp.ret ?_ | refine thenK_n ?_ | refine thenK_r ?_ | refine thenK_e ?_ | refine blockK_n ?_ | refine blockK_r ?_ | refine blockK_e ?_ | refine blockK_o (by decide) ?_ | (refine Wp.condT ?_ ?_; focus (simp -implicitDefEqProofs [hjk] <;> fail)) | (refine Wp.condF ?_ ?_; focus (simp -implicitDefEqProofs [hjk] <;> fail)) | refine Wp.reg (by simp -implicitDefEqProofs [hjk]; exact ⟨rfl, rfl⟩) ?_ | refine Wp.regA (by simp -implicitDefEqProofs [hjk]; exact ⟨rfl, rfl⟩) (by rfl) ?_))
            (apply endK_r; (focus (simp -implicitDefEqProofs [Tryz.f65]; try rfl)); (focus (intro g; simp -implicitDefEqProofs [Tryz.f65])); exact ⟨_, rfl⟩)
        | false =>
          by_cases hjk : j < k
          rotate_left
          · have hkj : q k = (pv, pu, false) := by rw [← hp]; congr 1; omega
            rw [hkj] at hx0 hσ0
            simp at hx0 hσ0
            subst hx0 hσ0
            have hjk' : ¬ (j : Int) < k := by omega
            (repeat (first | refine Wp.seq ?_ | refine Wp.block ?_ | refine Wp.skip ?_ | refine Wp.exit ?_ | refine Wp.ret ?_ | refine thenK_n ?_ | refine thenK_r ?_ | refine thenK_e ?_ | refine blockK_n ?_ | refine blockK_r ?_ | refine blockK_e ?_ | refine blockK_o (by decide) ?_ | (refine Wp.condT ?_ ?_; focus (simp -implicitDefEqProofs [hjk'] <;> fail)) | (refine Wp.condF ?_ ?_; focus (simp -implicitDefEqProofs [hjk'] <;> fail)) | refine Wp.reg (by simp -implicitDefEqProofs [hjk']; exact ⟨rfl, rfl⟩) ?_ | refine Wp.regA (by simp -implicitDefEqProofs [hjk']; exact ⟨rfl, rfl⟩) (by rfl) ?_))
            (apply endK_r; (focus (simp -implicitDefEqProofs [Tryz.f65]; try rfl)); (focus (intro g; simp -implicitDefEqProofs [Tryz.f65])); exact ⟨_, rfl⟩)
          have hjk' : (j : Int) < k := by omega
          have hwj : IntKind.i64.wrap ((j : Int) + 1) = j + 1 := IntWalk.i64_in _ (by omega)
          obtain ⟨⟨dv, du, dd'⟩, hd, hnext⟩ := hqs j hjk (by rw [hp])
          rw [hp] at hd hnext
          have d1 := caD_c hd
          cases dd' with
          | true =>
            simp at d1 hnext
            (repeat (first | refine Wp.seq ?_ | refine Wp.block ?_ | refine Wp.skip ?_ | refine Wp.exit ?_ | refine Wp.ret ?_ | refine thenK_n ?_ | refine thenK_r ?_ | refine thenK_e ?_ | refine blockK_n ?_ | refine blockK_r ?_ | refine blockK_e ?_ | refine blockK_o (by decide) ?_ | (refine Wp.condT ?_ ?_; focus (simp -implicitDefEqProofs [hjk', hwj, d1] <;> fail)) | (refine Wp.condF ?_ ?_; focus (simp -implicitDefEqProofs [hjk', hwj, d1] <;> fail)) | refine Wp.reg (by simp -implicitDefEqProofs [hjk', hwj, d1]; exact ⟨rfl, rfl⟩) ?_ | refine Wp.regA (by simp -implicitDefEqProofs [hjk', hwj, d1]; exact ⟨rfl, rfl⟩) (by rfl) ?_))
            refine ⟨by simp, ⟨_, by simp -implicitDefEqProofs; rfl⟩, k - (j + 1), by omega, j + 1, rfl, by omega, by simp, by simp [hnext], by simp [hnext]⟩
          | false =>
            simp at d1 hnext
            have d2 := caD_c hnext
            obtain ⟨⟨qv, qu, qo⟩, hqq⟩ : ∃ p', q (j + 1) = p' := ⟨_, rfl⟩
            rw [hqq] at d2
            simp at d2
            (repeat (first | refine Wp.seq ?_ | refine Wp.block ?_ | refine Wp.skip ?_ | refine Wp.exit ?_ | refine Wp.ret ?_ | refine thenK_n ?_ | refine thenK_r ?_ | refine thenK_e ?_ | refine blockK_n ?_ | refine blockK_r ?_ | refine blockK_e ?_ | refine blockK_o (by decide) ?_ | (refine Wp.condT ?_ ?_; focus (simp -implicitDefEqProofs [hjk', hwj, d1, d2] <;> fail)) | (refine Wp.condF ?_ ?_; focus (simp -implicitDefEqProofs [hjk', hwj, d1, d2] <;> fail)) | refine Wp.reg (by simp -implicitDefEqProofs [hjk', hwj, d1, d2]; exact ⟨rfl, rfl⟩) ?_ | refine Wp.regA (by simp -implicitDefEqProofs [hjk', hwj, d1, d2]; exact ⟨rfl, rfl⟩) (by rfl) ?_))
            refine ⟨by simp, ⟨_, by simp -implicitDefEqProofs; rfl⟩, k - (j + 1), by omega, j + 1, rfl, by omega, by simp, by simp [hqq], by simp [hqq]⟩
end M
end Go.Proofs.YthclcchnodjjpaaGreatDoor
