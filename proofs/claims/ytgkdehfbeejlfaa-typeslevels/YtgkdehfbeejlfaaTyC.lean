/- make.Type: types out of a deck. -/
import Derived.Test.YtgkdehfbeejlfaaTyB
set_option linter.unusedVariables false
set_option linter.unusedSimpArgs false
set_option maxRecDepth 10000
namespace Go.Proofs.Ytgkdehfbeejlfaa
namespace M
attribute [local irreducible] Wp thenK blockK endK
variable {E : Oracle}
open T (Ty Tm)
theorem nextP_eq {zs : List Int} {i i1 : Nat} {n p : Int} (h : nextP zs i n = (p, i1)) (hn : 1 ≤ n) (hi : i ≤ zs.length) : 0 ≤ p ∧ p < n ∧ i1 ≤ zs.length := by
  have h1 := nextP_range zs i hn
  have h2 := nextP_le n hi
  rw [h] at h1 h2
  exact ⟨h1.1, h1.2, h2⟩
theorem pow_nodes {d : Nat} (hd : d ≤ 20) {s : Ty} (h : s.size < 2 ^ (d + 1)) : s.raw.nodes ≤ 1000000000 := by
  rw [Ty.raw_nodes]
  have : 2 ^ (d + 1) ≤ 2 ^ 21 := Nat.pow_le_pow_right (by decide) (by omega)
  omega
theorem typeP_nodes (zs : List Int) {d : Nat} (hd : d ≤ 20) (i : Nat) : (typeP zs d i).1.raw.nodes ≤ 1000000000 := pow_nodes hd (typeP_size zs d i)

theorem mkType (zs : List Int) (hz : zs.length ≤ 1000000) : ∀ (d i : Nat), d ≤ 20 → i ≤ zs.length →
    den X E 9 [.loc 0 0, .int .i64 d] [deck zs i] = some ((typeP zs d i).1.raw.enc, [deck zs (typeP zs d i).2]) := by
  intro d
  induction d with
  | zero =>
    intro i hd hi
    obtain ⟨p, i1, hp⟩ : ∃ p i1, nextP zs i 7 = (p, i1) := ⟨_, _, rfl⟩
    obtain ⟨h0, h7, hi1⟩ := nextP_eq hp (by decide) hi
    have c1 := fun g b S h => next_c (E := E) zs i 7 (by decide) (by decide) hi hz g b S h
    simp only [hp] at c1
    simp only [typeP, hp, deck_eq]
    refine den_w (fn := Try.f9) (σ1 := [[.sl (zs.map ic) .dead, .int .i64 i1]]) (by rfl) (by rfl) (by kernel_rfl) rfl (by rfl) (by rfl) (by simp -implicitDefEqProofs) ?_
    simp -implicitDefEqProofs
    obtain rfl | rfl | rfl | rfl | rfl | rfl | rfl : p = 0 ∨ p = 1 ∨ p = 2 ∨ p = 3 ∨ p = 4 ∨ p = 5 ∨ p = 6 := by omega
    all_goals
      (repeat (first | refine Wp.seq ?_ | refine Wp.block ?_ | refine Wp.skip ?_ | refine Wp.exit ?_ | refine Wp.ret ?_ | refine thenK_n ?_ | refine thenK_r ?_ | refine thenK_e ?_ | refine blockK_n ?_ | refine blockK_r ?_ | refine blockK_e ?_ | refine blockK_o (by decide) ?_ | (refine Wp.condT ?_ ?_; focus (simp -implicitDefEqProofs [c1, nat1_c, list1_c, unit1_c] <;> fail)) | (refine Wp.condF ?_ ?_; focus (simp -implicitDefEqProofs [c1, nat1_c, list1_c, unit1_c] <;> fail)) | refine Wp.reg (by simp -implicitDefEqProofs [c1, nat1_c, list1_c, unit1_c]; exact ⟨rfl, rfl⟩) ?_ | refine Wp.regA (by simp -implicitDefEqProofs [c1, nat1_c, list1_c, unit1_c]; exact ⟨rfl, rfl⟩) (by rfl) ?_))
      (apply endK_r; (focus (simp -implicitDefEqProofs [Try.f9, Ty.raw]; try rfl)); (focus (intro g; simp -implicitDefEqProofs [Try.f9, Ty.raw])); exact ⟨_, rfl⟩)
  | succ d ih =>
    intro i hd hi
    obtain ⟨p, i1, hp⟩ : ∃ p i1, nextP zs i 7 = (p, i1) := ⟨_, _, rfl⟩
    obtain ⟨h0, h7, hi1⟩ := nextP_eq hp (by decide) hi
    have c1 := fun g b S h => next_c (E := E) zs i 7 (by decide) (by decide) hi hz g b S h
    simp only [hp] at c1
    have hc : ∀ j, j ≤ zs.length → ∀ g b S, sd S.σ b = some (deck zs j) → callT (X.at g) (den X E) S 9 [.loc b 0, .int .i64 d] = some ((typeP zs d j).1.raw.enc, { S with σ := S.σ.set b (deck zs (typeP zs d j).2) }) := fun j hj g b S hS =>
      call_ref (cf := X.at g) (fn := Try.f9) (by kernel_rfl) rfl (by rfl) (by rfl) (by simp) (by simp) (by simp) (ih j (by omega) hj) S hS
    have hi2 := typeP_le (zs := zs) d hi1
    have k1 := hc i1 hi1
    have k2 := hc _ hi2
    simp at k1 k2
    have hw : IntKind.i64.wrap (d : Int) = d := IntWalk.i64_in _ (by omega)
    have hpos : (0 : Int) < (d : Int) + 1 := by omega
    have n1 := typeP_nodes zs (d := d) (by omega) i1
    have n2 := typeP_nodes zs (d := d) (by omega) (typeP zs d i1).2
    have c5 := two1_c (E := E) (k := (typeP zs d i1).1.raw.k) (ts := (typeP zs d i1).1.raw.as) (m := (typeP zs d (typeP zs d i1).2).1.raw.k) (us := (typeP zs d (typeP zs d i1).2).1.raw.as) (by simpa using n1) (by simpa using n2)
    have c6 := fun1_c (E := E) (k := (typeP zs d i1).1.raw.k) (ts := (typeP zs d i1).1.raw.as) (m := (typeP zs d (typeP zs d i1).2).1.raw.k) (us := (typeP zs d (typeP zs d i1).2).1.raw.as) (by simpa using n1) (by simpa using n2)
    simp only [typeP, hp]
    obtain rfl | rfl | rfl | rfl | rfl | rfl | rfl : p = 0 ∨ p = 1 ∨ p = 2 ∨ p = 3 ∨ p = 4 ∨ p = 5 ∨ p = 6 := by omega
    all_goals
      simp
      refine den_w (fn := Try.f9) (by rfl) (by rfl) (by kernel_rfl) rfl (by rfl) (by rfl) (by simp) ?_
      simp
      (repeat (first | refine Wp.seq ?_ | refine Wp.block ?_ | refine Wp.skip ?_ | refine Wp.exit ?_ | refine Wp.ret ?_ | refine thenK_n ?_ | refine thenK_r ?_ | refine thenK_e ?_ | refine blockK_n ?_ | refine blockK_r ?_ | refine blockK_e ?_ | refine blockK_o (by decide) ?_ | (refine Wp.condT ?_ ?_; focus (simp -implicitDefEqProofs [c1, nat1_c, list1_c, unit1_c, k1, k2, hw, hpos, c5, c6] <;> fail)) | (refine Wp.condF ?_ ?_; focus (simp -implicitDefEqProofs [c1, nat1_c, list1_c, unit1_c, k1, k2, hw, hpos, c5, c6] <;> fail)) | refine Wp.reg (by simp -implicitDefEqProofs [c1, nat1_c, list1_c, unit1_c, k1, k2, hw, hpos, c5, c6]; exact ⟨rfl, rfl⟩) ?_ | refine Wp.regA (by simp -implicitDefEqProofs [c1, nat1_c, list1_c, unit1_c, k1, k2, hw, hpos, c5, c6]; exact ⟨rfl, rfl⟩) (by rfl) ?_))
      (apply endK_r; (focus (simp -implicitDefEqProofs [Try.f9, Ty.raw]; try rfl)); (focus (intro g; simp -implicitDefEqProofs [Try.f9, Ty.raw])); exact ⟨_, rfl⟩)
theorem mkType_c (zs : List Int) (hz : zs.length ≤ 1000000) (d i : Nat) (hd : d ≤ 20) (hi : i ≤ zs.length)  (g b : Nat) (S : St) (hS : sd S.σ b = some [.sl (zs.map ic) .dead, .int .i64 i]) : callT (X.at g) (den X E) S 9 [.loc b 0, .int .i64 d] = some (.agg [.int .i64 (typeP zs d i).1.raw.k, .sl (List.map RT.cells (typeP zs d i).1.raw.as) .dead], { S with σ := S.σ.set b [.sl (zs.map ic) .dead, .int .i64 (typeP zs d i).2] }) := by
  simpa using call_upD (cf := X.at g) (fn := Try.f9) (args' := [.int .i64 d]) (by kernel_rfl) rfl (by rfl) (by rfl) (by simp) (by simp; try rfl) (by simp) (by simp) (mkType zs hz d i hd hi) S hS
end M
end Go.Proofs.Ytgkdehfbeejlfaa
