/- A part of the proof: LwB. -/
import Derived.Test.YthclcchnodjjpaaGreatDoorG27
/- law33.MajorantTyped. -/
set_option linter.unusedVariables false
set_option linter.unusedSimpArgs false
set_option maxRecDepth 10000
set_option maxHeartbeats 4000000
namespace Go.Proofs.YthclcchnodjjpaaGreatDoor
namespace M
attribute [local irreducible] Wp thenK blockK endK
variable {E : Oracle}
open T (V Ty Tm noTy Ans Res evM callV VT VB Env tyR resT resE)
attribute [local simp] noTy
theorem termP_facts {zs : List Int} {d i j : Nat} {t : Ty} {g : List Ty} {x : Tm} (h : termP zs d t g i = (x, j)) (hd : d ≤ 4) (ht : t.size ≤ 64) (hg : ∀ s ∈ g, s.size ≤ 64) (hl : g.length ≤ 100) (hi : i ≤ zs.length) :
    j ≤ zs.length ∧ x.small = true ∧ x.size ≤ 30000 ∧ (∃ b : Nat, 3 ≤ b ∧ b ≤ 268435456 ∧ x.idx b = true) ∧ ∃ e, T.Sem g.reverse x t e := by
  have h1 := termP_small zs d t g i hi
  have h2 := termP_ty zs d t g i
  rw [h] at h1 h2
  obtain ⟨h3, h4⟩ := h1
  obtain ⟨h5, h6⟩ := h4 ht hg
  have h7 : 3 ^ d ≤ 3 ^ 4 := Nat.pow_le_pow_right (by decide) hd
  have h8 : (3 : Nat) ^ 4 = 81 := rfl
  obtain ⟨e, he⟩ := h2
  have h9 := he.idx
  refine ⟨h3, h5, by simp only at h6; omega, ⟨g.length + x.size + 3, by omega, by simp only at h6; omega, T.Tm.idx_mono (by simp) x h9⟩, e, he⟩
theorem majorantTyped (zs : List Int) : den X E 3 [.sl (zs.map ic) .dead] [] = some (.bool true, []) := by
  by_cases hf : zs.length ≤ 500
  rotate_left
  · have c1 := few1_c (E := E) zs
    simp [hf] at c1
    refine den_w0 (fn := Tryz.f3) (by rfl) (by rfl) (by kernel_rfl) rfl (by rfl) ?_
    simp -implicitDefEqProofs
    (repeat (first | refine Wp.seq ?_ | refine Wp.block ?_ | refine Wp.skip ?_ | refine Wp.exit ?_ | refine Wp.ret ?_ | refine thenK_n ?_ | refine thenK_r ?_ | refine thenK_e ?_ | refine blockK_n ?_ | refine blockK_r ?_ | refine blockK_e ?_ | refine blockK_o (by decide) ?_ | (refine Wp.condT ?_ ?_; focus (simp -implicitDefEqProofs [awake33_c, c1] <;> fail)) | (refine Wp.condF ?_ ?_; focus (simp -implicitDefEqProofs [awake33_c, c1] <;> fail)) | refine Wp.reg (by simp -implicitDefEqProofs [awake33_c, c1]; exact ⟨rfl, rfl⟩) ?_ | refine Wp.regA (by simp -implicitDefEqProofs [awake33_c, c1]; exact ⟨rfl, rfl⟩) (by rfl) ?_))
    (apply endK_r; (focus (simp -implicitDefEqProofs [Tryz.f3]; try rfl)); (focus (intro g; simp -implicitDefEqProofs [Tryz.f3])); exact ⟨_, rfl⟩)
  have c1 := few1_c (E := E) zs
  simp [hf] at c1
  have c2 := new1_c (E := E) zs
  have hz : zs.length ≤ 1000000 := by omega
  have c3 := mkContext_c (E := E) zs hz 0 (Nat.zero_le _)
  have hi1 := contextP_le (zs := zs) (i := 0) (Nat.zero_le _)
  have hgl := contextP_len zs 0
  have hgs := contextP_size zs 0
  revert c3 hi1 hgl hgs
  generalize contextP zs 0 = pg
  obtain ⟨g, i1⟩ := pg
  intro c3 hi1 hgl hgs
  simp only at c3 hi1 hgl hgs
  have hg64 : ∀ s ∈ g, s.size ≤ 64 := fun s hs => by have := hgs s hs; omega
  have c4 := mkType_c (E := E) zs hz 1 i1 (by decide) hi1
  have hi2 := typeP_le (zs := zs) 1 hi1
  have hts := typeP_size zs 1 i1
  revert c4 hi2 hts
  generalize typeP zs 1 i1 = pt
  obtain ⟨t, i2⟩ := pt
  intro c4 hi2 hts
  simp only at c4 hi2 hts
  have ht64 : t.size ≤ 64 := by omega
  have c5 := mkTerm_c (E := E) zs hz 3 i2 t g (by decide) ht64 (by omega) hg64 hi2
  obtain ⟨x, i3, hx⟩ : ∃ x i3, termP zs 3 t g i2 = (x, i3) := ⟨_, _, rfl⟩
  obtain ⟨hi3, hxs, hxz, ⟨b, hb3, hb, hxi⟩, dx, hsem⟩ := termP_facts hx (by decide) ht64 hg64 (by omega) hi2
  rw [hx] at c5
  simp only at c5
  have c6 := mjTermR_c (E := E) hb3 hb (by omega) hxs hxi
  simp at c3 c4 c5
  rcases mjRes_or x with ⟨hm, hx4, hst⟩ | hm
  rotate_left
  · rw [hm] at c6
    simp at c6
    refine den_w0 (fn := Tryz.f3) (by rfl) (by rfl) (by kernel_rfl) rfl (by rfl) ?_
    simp -implicitDefEqProofs
    (repeat (first | refine Wp.seq ?_ | refine Wp.block ?_ | refine Wp.skip ?_ | refine Wp.exit ?_ | refine Wp.ret ?_ | refine thenK_n ?_ | refine thenK_r ?_ | refine thenK_e ?_ | refine blockK_n ?_ | refine blockK_r ?_ | refine blockK_e ?_ | refine blockK_o (by decide) ?_ | (refine Wp.condT ?_ ?_; focus (simp -implicitDefEqProofs [awake33_c, c1, c2, c3, c4, c5, c6] <;> fail)) | (refine Wp.condF ?_ ?_; focus (simp -implicitDefEqProofs [awake33_c, c1, c2, c3, c4, c5, c6] <;> fail)) | refine Wp.reg (by simp -implicitDefEqProofs [awake33_c, c1, c2, c3, c4, c5, c6]; exact ⟨rfl, rfl⟩) ?_ | refine Wp.regA (by simp -implicitDefEqProofs [awake33_c, c1, c2, c3, c4, c5, c6]; exact ⟨rfl, rfl⟩) (by rfl) ?_))
    (apply endK_r; (focus (simp -implicitDefEqProofs [Tryz.f3]; try rfl)); (focus (intro g; simp -implicitDefEqProofs [Tryz.f3])); exact ⟨_, rfl⟩)
  rw [hm] at c6
  simp at c6
  have c7 : ∀ s ∈ g, ∀ (g : Nat) (S : St) (o1 : Own), callT (X.at g) (den X E) S 15 [.agg [.int .i64 s.raw.k, .sl (List.map RT.cells s.raw.as) o1]] = some (.tup [.agg [.int .i64 s.star.raw.k, .sl (List.map RT.cells s.star.raw.as) .dead], .int .i64 0], S) := fun s hs g S o1 => mjType_c (hg64 s hs) g S o1
  have c8 := mjType_c (E := E) (s := t) ht64
  have hcomp : (RT.cells ∘ Ty.raw) ∘ Ty.star = RT.cells ∘ Ty.raw ∘ Ty.star := rfl
  have hsst := T.Tm.star_small x hxs
  obtain ⟨d', hst', _⟩ := hsem.star
  have hrev : (g.map Ty.star).reverse = g.reverse.map Ty.star := by simp
  have c9 := typeOf2_c (E := E) (t := x.star) (G := g.map Ty.star) hst (by simp; omega) hsst (by intro s hs; obtain ⟨u, hu, rfl⟩ := List.mem_map.1 hs; rw [Ty.star_size]; exact hg64 u hu)
  rw [hrev] at c9
  have c10 := sameTy_c (E := E) (s := t.star) (u := t.star) (by rw [Ty.star_size]; omega)
  simp at c10
  refine den_w0 (fn := Tryz.f3) (by rfl) (by rfl) (by kernel_rfl) rfl (by rfl) ?_
  simp -implicitDefEqProofs
  (repeat (first | refine Wp.seq ?_ | refine Wp.block ?_ | refine Wp.skip ?_ | refine Wp.exit ?_ | refine Wp.ret ?_ | refine thenK_n ?_ | refine thenK_r ?_ | refine thenK_e ?_ | refine blockK_n ?_ | refine blockK_r ?_ | refine blockK_e ?_ | refine blockK_o (by decide) ?_ | (refine Wp.condT ?_ ?_; focus (simp -implicitDefEqProofs [awake33_c, c1, c2, c3, c4, c5, c6] <;> fail)) | (refine Wp.condF ?_ ?_; focus (simp -implicitDefEqProofs [awake33_c, c1, c2, c3, c4, c5, c6] <;> fail)) | refine Wp.reg (by simp -implicitDefEqProofs [awake33_c, c1, c2, c3, c4, c5, c6]; exact ⟨rfl, rfl⟩) ?_ | refine Wp.regA (by simp -implicitDefEqProofs [awake33_c, c1, c2, c3, c4, c5, c6]; exact ⟨rfl, rfl⟩) (by rfl) ?_))
  refine Wp.loopF [2, 8, 10, 11, 12, 45, 46, 47, 48, 49, 50, 51, 52, 53, 54, 55, 56, 57, 58, 59, 60] [] (fun n w c tk => ∃ done rest o, g = done ++ rest ∧ n = rest.length ∧ w 45 = .int .i64 done.length ∧ w 8 = .sl (List.map (RT.cells ∘ Ty.raw ∘ Ty.star) done) o ∧ Can tk (List.map (RT.cells ∘ Ty.raw ∘ Ty.star) done) o) (g.length) ?_ ?_ ?_ ?_
  · rfl
  · rfl
  · exact ⟨[], g, .full, by simp, rfl, rfl, rfl, trivial⟩
  rintro n w c junk tk r σ ⟨done, rest, o, hl, rfl, h45, h8, hcan⟩ hr hσ
  simp -implicitDefEqProofs [h45, h8] at hr hσ
  subst hr hσ
  rcases rest with _ | ⟨a, rest⟩
  rotate_left
  · have ha : el g done.length = some a := by simp [hl]
    have hlt : done.length < g.length := by simp [hl]
    have hmem : a ∈ g := by simp [hl]
    have hw : IntKind.i64.wrap ((done.length : Int) + 1) = done.length + 1 := IntWalk.i64_in _ (by omega)
    have hia := c7 a hmem
    obtain ⟨o', tk', happ, hcan'⟩ := can_app hcan 2 (by decide) (by simp) (by simp; omega)
    (repeat (first | refine Wp.seq ?_ | refine Wp.block ?_ | refine Wp.skip ?_ | refine Wp.exit ?_ | refine Wp.ret ?_ | refine thenK_n ?_ | refine thenK_r ?_ | refine thenK_e ?_ | refine blockK_n ?_ | refine blockK_r ?_ | refine blockK_e ?_ | refine blockK_o (by decide) ?_ | (refine Wp.condT ?_ ?_; focus (simp -implicitDefEqProofs [ha, hlt, hw, hia, happ] <;> fail)) | (refine Wp.condF ?_ ?_; focus (simp -implicitDefEqProofs [ha, hlt, hw, hia, happ] <;> fail)) | refine Wp.reg (by simp -implicitDefEqProofs [ha, hlt, hw, hia, happ]; exact ⟨rfl, rfl⟩) ?_ | refine Wp.regA (by simp -implicitDefEqProofs [ha, hlt, hw, hia, happ]; exact ⟨rfl, rfl⟩) (by rfl) ?_))
    refine ⟨by simp, ⟨_, by simp -implicitDefEqProofs; rfl⟩, rest.length, by simp, done ++ [a], rest, o', by simp [hl], rfl, by simp, by simp, by simpa using hcan' _⟩
  simp at hl
  subst hl
  rcases res_raw hst'.tyR with ⟨e1, e2, e3⟩ | ⟨e1, e2, e3⟩
  · rw [e2, e3] at c9
    simp [List.map_map, hcomp] at c9
    (repeat (first | refine Wp.seq ?_ | refine Wp.block ?_ | refine Wp.skip ?_ | refine Wp.exit ?_ | refine Wp.ret ?_ | refine thenK_n ?_ | refine thenK_r ?_ | refine thenK_e ?_ | refine blockK_n ?_ | refine blockK_r ?_ | refine blockK_e ?_ | refine blockK_o (by decide) ?_ | (refine Wp.condT ?_ ?_; focus (simp -implicitDefEqProofs [c8, c9, c10] <;> fail)) | (refine Wp.condF ?_ ?_; focus (simp -implicitDefEqProofs [c8, c9, c10] <;> fail)) | refine Wp.reg (by simp -implicitDefEqProofs [c8, c9, c10]; exact ⟨rfl, rfl⟩) ?_ | refine Wp.regA (by simp -implicitDefEqProofs [c8, c9, c10]; exact ⟨rfl, rfl⟩) (by rfl) ?_))
    (apply endK_r; (focus (simp -implicitDefEqProofs [Tryz.f3]; try rfl)); (focus (intro g; simp -implicitDefEqProofs [Tryz.f3])); exact ⟨_, rfl⟩)
  · rw [e2, e3] at c9
    simp [List.map_map, hcomp] at c9
    (repeat (first | refine Wp.seq ?_ | refine Wp.block ?_ | refine Wp.skip ?_ | refine Wp.exit ?_ | refine Wp.ret ?_ | refine thenK_n ?_ | refine thenK_r ?_ | refine thenK_e ?_ | refine blockK_n ?_ | refine blockK_r ?_ | refine blockK_e ?_ | refine blockK_o (by decide) ?_ | (refine Wp.condT ?_ ?_; focus (simp -implicitDefEqProofs [c8, c9, c10] <;> fail)) | (refine Wp.condF ?_ ?_; focus (simp -implicitDefEqProofs [c8, c9, c10] <;> fail)) | refine Wp.reg (by simp -implicitDefEqProofs [c8, c9, c10]; exact ⟨rfl, rfl⟩) ?_ | refine Wp.regA (by simp -implicitDefEqProofs [c8, c9, c10]; exact ⟨rfl, rfl⟩) (by rfl) ?_))
    (apply endK_r; (focus (simp -implicitDefEqProofs [Tryz.f3]; try rfl)); (focus (intro g; simp -implicitDefEqProofs [Tryz.f3])); exact ⟨_, rfl⟩)
end M
end Go.Proofs.YthclcchnodjjpaaGreatDoor
