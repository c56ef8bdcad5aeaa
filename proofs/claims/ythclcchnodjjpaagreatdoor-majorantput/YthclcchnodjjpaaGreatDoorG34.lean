/- A part of the proof: LwF. -/
import Derived.Test.YthclcchnodjjpaaGreatDoorG33
import Derived.Test.YthclcchnodjjpaaGreatDoorG31
/- ref03.Put; law33.MajorantPut. -/
set_option linter.unusedVariables false
set_option linter.unusedSimpArgs false
set_option maxRecDepth 10000
set_option maxHeartbeats 4000000
namespace Go.Proofs.YthclcchnodjjpaaGreatDoor
namespace M
attribute [local irreducible] Wp thenK blockK endK
variable {E : Oracle}
open T (V Ty Tm noTy)
attribute [local simp] noTy
/-- What Put returns. -/
def putRes (t s : Tm) : RM × Int := if t.size ≤ 4096 ∧ s.size ≤ 4096 ∧ (Tm.put s 0 t).size ≤ 4096 then ((Tm.put s 0 t).raw, 0) else (zeroM, 4)
theorem putRes_or (t s : Tm) : (putRes t s = ((Tm.put s 0 t).raw, 0) ∧ (Tm.put s 0 t).size ≤ 4096) ∨ putRes t s = (zeroM, 4) := by
  unfold putRes
  split
  · rename_i h; exact .inl ⟨rfl, h.2.2⟩
  · exact .inr rfl
theorem put3 (t s : Tm) {b : Nat} (hb : b ≤ 268435456) (hts : t.small = true) (hti : t.idx b = true) (htn : t.size ≤ 1000000) (hss : s.small = true) (hsi : s.idx b = true) (hsn : s.size ≤ 1000000) :
    den X E 25 [t.raw.enc, .int .i64 0, s.raw.enc] [] = some (.tup [(putRes t s).1.enc, .int .i64 (putRes t s).2], []) := by
  have f : ∀ t : Tm, t.small = true → t.idx b = true → t.size ≤ 1000000 → t.raw.nodes ≤ 1000000000 ∧ t.raw.err = (if t.size ≤ 4096 then 0 else 4) ∧ t.raw.near 536870912 = true ∧ t.raw.idx 1000000000 = true ∧ t.raw.ok = true := fun t h1 h2 h3 =>
    ⟨by have := t.raw_nodes h1; omega, t.raw_err h1, RM.near_of_idx _ (RM.idx_mono (b := b) (by omega) _ (by rw [t.raw_idx]; exact h2)), RM.idx_mono (b := b) (by omega) _ (by rw [t.raw_idx]; exact h2), by rw [t.raw_ok]; exact h1⟩
  obtain ⟨t1, t2, t3, t4, t5⟩ := f t hts hti htn
  obtain ⟨s1, s2, s3, s4, s5⟩ := f s hss hsi hsn
  have c1 := check2_c (E := E) (k := t.raw.k) (i := t.raw.i) (m := t.raw.ty.k) (us := t.raw.ty.as) (ts := t.raw.as) (by simpa using t1)
  have c2 := check2_c (E := E) (k := s.raw.k) (i := s.raw.i) (m := s.raw.ty.k) (us := s.raw.ty.as) (ts := s.raw.as) (by simpa using s1)
  simp at c1 c2
  by_cases h1 : t.size ≤ 4096
  rotate_left
  · have hr : putRes t s = (zeroM, 4) := by unfold putRes; rw [if_neg (fun h => h1 h.1)]
    rw [hr]
    rw [if_neg h1] at t2
    simp [t2] at c1
    refine den_w0 (fn := Tryz.f25) (by rfl) (by rfl) (by kernel_rfl) rfl (by rfl) ?_
    simp -implicitDefEqProofs
    (repeat (first | refine Wp.seq ?_ | refine Wp.block ?_ | refine Wp.skip ?_ | refine Wp.exit ?_ | refine Wp.ret ?_ | refine thenK_n ?_ | refine thenK_r ?_ | refine thenK_e ?_ | refine blockK_n ?_ | refine blockK_r ?_ | refine blockK_e ?_ | refine blockK_o (by decide) ?_ | (refine Wp.condT ?_ ?_; focus (simp -implicitDefEqProofs [c1] <;> fail)) | (refine Wp.condF ?_ ?_; focus (simp -implicitDefEqProofs [c1] <;> fail)) | refine Wp.reg (by simp -implicitDefEqProofs [c1]; exact ⟨rfl, rfl⟩) ?_ | refine Wp.regA (by simp -implicitDefEqProofs [c1]; exact ⟨rfl, rfl⟩) (by rfl) ?_))
    (apply endK_r; (focus (simp -implicitDefEqProofs [Tryz.f25]; try rfl)); (focus (intro g; simp -implicitDefEqProofs [Tryz.f25])); exact ⟨_, rfl⟩)
  rw [if_pos h1] at t2
  simp [t2] at c1
  by_cases h2 : s.size ≤ 4096
  rotate_left
  · have hr : putRes t s = (zeroM, 4) := by unfold putRes; rw [if_neg (fun h => h2 h.2.1)]
    rw [hr]
    rw [if_neg h2] at s2
    simp [s2] at c2
    refine den_w0 (fn := Tryz.f25) (by rfl) (by rfl) (by kernel_rfl) rfl (by rfl) ?_
    simp -implicitDefEqProofs
    (repeat (first | refine Wp.seq ?_ | refine Wp.block ?_ | refine Wp.skip ?_ | refine Wp.exit ?_ | refine Wp.ret ?_ | refine thenK_n ?_ | refine thenK_r ?_ | refine thenK_e ?_ | refine blockK_n ?_ | refine blockK_r ?_ | refine blockK_e ?_ | refine blockK_o (by decide) ?_ | (refine Wp.condT ?_ ?_; focus (simp -implicitDefEqProofs [c1, c2] <;> fail)) | (refine Wp.condF ?_ ?_; focus (simp -implicitDefEqProofs [c1, c2] <;> fail)) | refine Wp.reg (by simp -implicitDefEqProofs [c1, c2]; exact ⟨rfl, rfl⟩) ?_ | refine Wp.regA (by simp -implicitDefEqProofs [c1, c2]; exact ⟨rfl, rfl⟩) (by rfl) ?_))
    (apply endK_r; (focus (simp -implicitDefEqProofs [Tryz.f25]; try rfl)); (focus (intro g; simp -implicitDefEqProofs [Tryz.f25])); exact ⟨_, rfl⟩)
  rw [if_pos h2] at s2
  simp [s2] at c2
  have c3 := least3_c (E := E) (b := 536870912) (k := t.raw.k) (i := t.raw.i) (m := t.raw.ty.k) (us := t.raw.ty.as) (ts := t.raw.as) (by simpa using t1)
  have c4 := least3_c (E := E) (b := 536870912) (k := s.raw.k) (i := s.raw.i) (m := s.raw.ty.k) (us := s.raw.ty.as) (ts := s.raw.as) (by simpa using s1)
  simp [t3] at c3
  simp [s3] at c4
  have c5 := count2_c (E := E) (k := t.raw.k) (i := t.raw.i) (m := t.raw.ty.k) (us := t.raw.ty.as) (ts := t.raw.as) (by simpa using t1)
  have c6 := count2_c (E := E) (k := s.raw.k) (i := s.raw.i) (m := s.raw.ty.k) (us := s.raw.ty.as) (ts := s.raw.as) (by simpa using s1)
  have c7 := times3_c (E := E) (z := 0) (k := t.raw.k) (i := t.raw.i) (m := t.raw.ty.k) (us := t.raw.ty.as) (ts := t.raw.as) (by simpa using t1) (by omega)
  simp [t.raw_count] at c5
  simp [s.raw_count] at c6
  have ht0 : t.raw.times 0 = t.times 0 := by simpa using t.raw_times 0
  simp [ht0] at c7
  have hle : t.times 0 ≤ 4096 := by have := RM.times_le t.raw 0; rw [ht0, t.raw_count] at this; omega
  have hps := Tm.put_size s t 0
  have hsp := s.size_pos
  obtain ⟨n, hn⟩ : ∃ n, s.size = n + 1 := ⟨s.size - 1, by omega⟩
  have hmul : t.times 0 * n ≤ 4096 * 4096 := Nat.mul_le_mul hle (by omega)
  have hn1 : s.size - 1 = n := by omega
  rw [hn1] at hps
  rw [hn] at c6
  obtain ⟨mm, hmm⟩ : ∃ mm, t.times 0 * n = mm := ⟨_, rfl⟩
  have hw1 : IntKind.i64.wrap (n : Int) = n := IntWalk.i64_in _ (by omega)
  have hmz : (t.times 0 : Int) * n = mm := by rw [← hmm]; simp
  have hw2 : IntKind.i64.wrap (mm : Int) = mm := IntWalk.i64_in _ (by omega)
  have hw3 : IntKind.i64.wrap ((t.size : Int) + mm) = t.size + mm := IntWalk.i64_in _ (by omega)
  rw [hmm] at hps
  by_cases h3 : (Tm.put s 0 t).size ≤ 4096
  rotate_left
  · have hr : putRes t s = (zeroM, 4) := by unfold putRes; rw [if_neg (fun h => h3 h.2.2)]
    have h4 : (4096 : Int) < t.size + mm := by omega
    rw [hr]
    simp at c6
    refine den_w0 (fn := Tryz.f25) (by rfl) (by rfl) (by kernel_rfl) rfl (by rfl) ?_
    simp -implicitDefEqProofs
    (repeat (first | refine Wp.seq ?_ | refine Wp.block ?_ | refine Wp.skip ?_ | refine Wp.exit ?_ | refine Wp.ret ?_ | refine thenK_n ?_ | refine thenK_r ?_ | refine thenK_e ?_ | refine blockK_n ?_ | refine blockK_r ?_ | refine blockK_e ?_ | refine blockK_o (by decide) ?_ | (refine Wp.condT ?_ ?_; focus (simp -implicitDefEqProofs [c1, c2, c3, c4, c5, c6, c7, hw1, hmz, hw2, hw3, h4] <;> fail)) | (refine Wp.condF ?_ ?_; focus (simp -implicitDefEqProofs [c1, c2, c3, c4, c5, c6, c7, hw1, hmz, hw2, hw3, h4] <;> fail)) | refine Wp.reg (by simp -implicitDefEqProofs [c1, c2, c3, c4, c5, c6, c7, hw1, hmz, hw2, hw3, h4]; exact ⟨rfl, rfl⟩) ?_ | refine Wp.regA (by simp -implicitDefEqProofs [c1, c2, c3, c4, c5, c6, c7, hw1, hmz, hw2, hw3, h4]; exact ⟨rfl, rfl⟩) (by rfl) ?_))
    (apply endK_r; (focus (simp -implicitDefEqProofs [Tryz.f25]; try rfl)); (focus (intro g; simp -implicitDefEqProofs [Tryz.f25])); exact ⟨_, rfl⟩)
  have hr : putRes t s = ((Tm.put s 0 t).raw, 0) := by unfold putRes; rw [if_pos ⟨h1, h2, h3⟩]
  have h4 : ¬ (4096 : Int) < t.size + mm := by omega
  rw [hr]
  have hrp : (Tm.put s 0 t).raw = RM.putr s.raw t.raw 0 := Tm.raw_put s t 0
  have k8 := in3 (E := E) s.raw s1 s4 s5 t.raw 0 t1 t4 t5 (by omega) (by have := t.raw_nodes hts; omega)
  rw [← hrp] at k8
  have hpn : (Tm.put s 0 t).raw.nodes ≤ 1000000000 := by have := (Tm.put s 0 t).raw_nodes (Tm.put_small s t hss 0 hts); omega
  generalize (Tm.put s 0 t).raw = w at k8 hpn
  have c8 : ∀ (g : Nat) (S : St) (o1 o2 o3 o4 : Own), callT (X.at g) (den X E) S 79 [.agg [.int .i64 t.raw.k, .int .i64 t.raw.i, .int .i64 t.raw.ty.k, .sl (List.map RT.cells t.raw.ty.as) o1, .sl (List.map RM.cells t.raw.as) o2], .int .i64 0, .int .i64 0, .agg [.int .i64 s.raw.k, .int .i64 s.raw.i, .int .i64 s.raw.ty.k, .sl (List.map RT.cells s.raw.ty.as) o3, .sl (List.map RM.cells s.raw.as) o4]] = some (.agg [.int .i64 w.k, .int .i64 w.i, .int .i64 w.ty.k, .sl (List.map RT.cells w.ty.as) .dead, .sl (List.map RM.cells w.as) .dead], S) := by
    intros
    simpa using call_up (cf := X.at _) (fn := Tryz.f79) (args' := [_, _, _, _]) (by kernel_rfl) (by simp) (by simp; try rfl) (by simpa using k8) _
  have c9 := copy2_c (E := E) (k := w.k) (i := w.i) (m := w.ty.k) (us := w.ty.as) (ts := w.as) (by simpa using hpn)
  simp at c6 c9
  refine den_w0 (fn := Tryz.f25) (by rfl) (by rfl) (by kernel_rfl) rfl (by rfl) ?_
  simp -implicitDefEqProofs
  (repeat (first | refine Wp.seq ?_ | refine Wp.block ?_ | refine Wp.skip ?_ | refine Wp.exit ?_ | refine Wp.ret ?_ | refine thenK_n ?_ | refine thenK_r ?_ | refine thenK_e ?_ | refine blockK_n ?_ | refine blockK_r ?_ | refine blockK_e ?_ | refine blockK_o (by decide) ?_ | (refine Wp.condT ?_ ?_; focus (simp -implicitDefEqProofs [c1, c2, c3, c4, c5, c6, c7, hw1, hmz, hw2, hw3, h4, c8, c9] <;> fail)) | (refine Wp.condF ?_ ?_; focus (simp -implicitDefEqProofs [c1, c2, c3, c4, c5, c6, c7, hw1, hmz, hw2, hw3, h4, c8, c9] <;> fail)) | refine Wp.reg (by simp -implicitDefEqProofs [c1, c2, c3, c4, c5, c6, c7, hw1, hmz, hw2, hw3, h4, c8, c9]; exact ⟨rfl, rfl⟩) ?_ | refine Wp.regA (by simp -implicitDefEqProofs [c1, c2, c3, c4, c5, c6, c7, hw1, hmz, hw2, hw3, h4, c8, c9]; exact ⟨rfl, rfl⟩) (by rfl) ?_))
  (apply endK_r; (focus (simp -implicitDefEqProofs [Tryz.f25]; try rfl)); (focus (intro g; simp -implicitDefEqProofs [Tryz.f25])); exact ⟨_, rfl⟩)
theorem put3_c {t s : Tm} {b : Nat} (hb : b ≤ 268435456) (hts : t.small = true) (hti : t.idx b = true) (htn : t.size ≤ 1000000) (hss : s.small = true) (hsi : s.idx b = true) (hsn : s.size ≤ 1000000) (g : Nat) (S : St) (o1 o2 o3 o4 : Own) : callT (X.at g) (den X E) S 25 [.agg [.int .i64 t.raw.k, .int .i64 t.raw.i, .int .i64 t.raw.ty.k, .sl (List.map RT.cells t.raw.ty.as) o1, .sl (List.map RM.cells t.raw.as) o2], .int .i64 0, .agg [.int .i64 s.raw.k, .int .i64 s.raw.i, .int .i64 s.raw.ty.k, .sl (List.map RT.cells s.raw.ty.as) o3, .sl (List.map RM.cells s.raw.as) o4]] = some (.tup [.agg [.int .i64 (putRes t s).1.k, .int .i64 (putRes t s).1.i, .int .i64 (putRes t s).1.ty.k, .sl (List.map RT.cells (putRes t s).1.ty.as) .dead, .sl (List.map RM.cells (putRes t s).1.as) .dead], .int .i64 (putRes t s).2], S) := by
  simpa using call_up (cf := X.at g) (fn := Tryz.f25) (args' := [.agg [.int .i64 t.raw.k, .int .i64 t.raw.i, .int .i64 t.raw.ty.k, .sl (List.map RT.cells t.raw.ty.as) o1, .sl (List.map RM.cells t.raw.as) o2], .int .i64 0, .agg [.int .i64 s.raw.k, .int .i64 s.raw.i, .int .i64 s.raw.ty.k, .sl (List.map RT.cells s.raw.ty.as) o3, .sl (List.map RM.cells s.raw.as) o4]]) (by kernel_rfl) (by simp) (by simp; try rfl) (put3 t s hb hts hti htn hss hsi hsn) S

theorem majorantPut (zs : List Int) : den X E 6 [.sl (zs.map ic) .dead] [] = some (.bool true, []) := by
  by_cases hf : zs.length ≤ 500
  rotate_left
  · have c1 := few1_c (E := E) zs
    simp [hf] at c1
    refine den_w0 (fn := Tryz.f6) (by rfl) (by rfl) (by kernel_rfl) rfl (by rfl) ?_
    simp -implicitDefEqProofs
    (repeat (first | refine Wp.seq ?_ | refine Wp.block ?_ | refine Wp.skip ?_ | refine Wp.exit ?_ | refine Wp.ret ?_ | refine thenK_n ?_ | refine thenK_r ?_ | refine thenK_e ?_ | refine blockK_n ?_ | refine blockK_r ?_ | refine blockK_e ?_ | refine blockK_o (by decide) ?_ | (refine Wp.condT ?_ ?_; focus (simp -implicitDefEqProofs [awake33_c, c1] <;> fail)) | (refine Wp.condF ?_ ?_; focus (simp -implicitDefEqProofs [awake33_c, c1] <;> fail)) | refine Wp.reg (by simp -implicitDefEqProofs [awake33_c, c1]; exact ⟨rfl, rfl⟩) ?_ | refine Wp.regA (by simp -implicitDefEqProofs [awake33_c, c1]; exact ⟨rfl, rfl⟩) (by rfl) ?_))
    (apply endK_r; (focus (simp -implicitDefEqProofs [Tryz.f6]; try rfl)); (focus (intro g; simp -implicitDefEqProofs [Tryz.f6])); exact ⟨_, rfl⟩)
  have c1 := few1_c (E := E) zs
  simp [hf] at c1
  have c2 := new1_c (E := E) zs
  have hz : zs.length ≤ 1000000 := by omega
  have c3 := mkContext_c (E := E) zs hz 0 (Nat.zero_le _)
  have hi1 := contextP_le (zs := zs) (i := 0) (Nat.zero_le _)
  have hgl := contextP_len zs 0
  have hgs := contextP_size zs 0
  revert c3 hi1 hgl hgs
  generalize contextP zs 0 = pg
  obtain ⟨g, i1⟩ := pg
  intro c3 hi1 hgl hgs
  simp only at c3 hi1 hgl hgs
  have hg64 : ∀ s ∈ g, s.size ≤ 64 := fun s hs => by have := hgs s hs; omega
  have c4 := mkType_c (E := E) zs hz 1 i1 (by decide) hi1
  have hi2 := typeP_le (zs := zs) 1 hi1
  have hts := typeP_size zs 1 i1
  revert c4 hi2 hts
  generalize typeP zs 1 i1 = ps
  obtain ⟨s, i2⟩ := ps
  intro c4 hi2 hss
  simp only at c4 hi2 hss
  have hs64 : s.size ≤ 64 := by omega
  have c5 := mkType_c (E := E) zs hz 1 i2 (by decide) hi2
  have hi3 := typeP_le (zs := zs) 1 hi2
  have hts := typeP_size zs 1 i2
  revert c5 hi3 hts
  generalize typeP zs 1 i2 = pt
  obtain ⟨t, i3⟩ := pt
  intro c5 hi3 hts
  simp only at c5 hi3 hts
  have ht64 : t.size ≤ 64 := by omega
  have hg' : ∀ u ∈ g ++ [s], u.size ≤ 64 := by
    intro u hu
    simp only [List.mem_append, List.mem_singleton] at hu
    rcases hu with hu | rfl
    · exact hg64 u hu
    · exact hs64
  have c6 := mkTerm_c (E := E) zs hz 3 i3 t (g ++ [s]) (by decide) ht64 (by simp; omega) hg' hi3
  obtain ⟨x, i4, hx⟩ : ∃ x i4, termP zs 3 t (g ++ [s]) i3 = (x, i4) := ⟨_, _, rfl⟩
  obtain ⟨hi4, hxs, hxz, ⟨b1, hb13, hb1, hxi⟩, dx, hsemx⟩ := termP_facts hx (by decide) ht64 hg' (by simp; omega) hi3
  rw [hx] at c6
  have c7 := mkTerm_c (E := E) zs hz 2 i4 s g (by decide) hs64 (by omega) hg64 hi4
  obtain ⟨a, i5, ha⟩ : ∃ a i5, termP zs 2 s g i4 = (a, i5) := ⟨_, _, rfl⟩
  obtain ⟨hi5, has, haz, ⟨b2, hb23, hb2, hai⟩, da, hsema⟩ := termP_facts ha (by decide) hs64 hg64 (by omega) hi4
  rw [ha] at c7
  simp only at c6 c7
  have hxi' : x.idx (40000) = true := by have := hsemx.idx; exact Tm.idx_mono (by simp; omega) _ this
  have hai' : a.idx (40000) = true := by have := hsema.idx; exact Tm.idx_mono (by simp; omega) _ this
  have c8 := put3_c (E := E) (t := x) (s := a) (b := 40000) (by omega) hxs hxi' (by omega) has hai' (by omega)
  obtain ⟨o1, tk1, a1, k1⟩ := can_apps (tk := []) (es := []) (o := .full) trivial (g.map (RT.cells ∘ Ty.raw)) 2 (by decide) (by simp) (by simp) (by simp; omega)
  obtain ⟨o2, tk2, a2, k2⟩ := can_apps k1 ([s].map (RT.cells ∘ Ty.raw)) 2 (by decide) (by simp) (by simp) (by simp; omega)
  simp only [List.nil_append] at a1 a2
  simp at c3 c4 c5 c6 c7 a2
  rcases putRes_or x a with ⟨hp, hpz⟩ | hp
  rotate_left
  · rw [hp] at c8
    have l1 := limits33_c (E := E) 4
    simp at c8 l1
    refine den_w0 (fn := Tryz.f6) (by rfl) (by rfl) (by kernel_rfl) rfl (by rfl) ?_
    simp -implicitDefEqProofs
    (repeat (first | refine Wp.seq ?_ | refine Wp.block ?_ | refine Wp.skip ?_ | refine Wp.exit ?_ | refine Wp.ret ?_ | refine thenK_n ?_ | refine thenK_r ?_ | refine thenK_e ?_ | refine blockK_n ?_ | refine blockK_r ?_ | refine blockK_e ?_ | refine blockK_o (by decide) ?_ | (refine Wp.condT ?_ ?_; focus (simp -implicitDefEqProofs [awake33_c, c1, c2, c3, c4, c5, c6, c7, c8, l1, a1, a2, -append_full] <;> fail)) | (refine Wp.condF ?_ ?_; focus (simp -implicitDefEqProofs [awake33_c, c1, c2, c3, c4, c5, c6, c7, c8, l1, a1, a2, -append_full] <;> fail)) | refine Wp.reg (by simp -implicitDefEqProofs [awake33_c, c1, c2, c3, c4, c5, c6, c7, c8, l1, a1, a2, -append_full]; exact ⟨rfl, rfl⟩) ?_ | refine Wp.regA (by simp -implicitDefEqProofs [awake33_c, c1, c2, c3, c4, c5, c6, c7, c8, l1, a1, a2, -append_full]; exact ⟨rfl, rfl⟩) (by rfl) ?_))
    (apply endK_r; (focus (simp -implicitDefEqProofs [Tryz.f6]; try rfl)); (focus (intro g; simp -implicitDefEqProofs [Tryz.f6])); exact ⟨_, rfl⟩)
  rw [hp] at c8
  have hws := Tm.put_small a x has 0 hxs
  have hwi : (Tm.put a 0 x).idx 90000 = true := Tm.idx_mono (by omega) _ (Tm.put_idx a x hai' 0 hxi')
  have d1 := mjTermR_c (E := E) (t := Tm.put a 0 x) (b' := 90000) (by decide) (by decide) (by omega) hws hwi
  have d2 := mjTermR_c (E := E) (t := x) (b' := 40000) (by decide) (by decide) (by omega) hxs hxi'
  have d3 := mjTermR_c (E := E) (t := a) (b' := 40000) (by decide) (by decide) (by omega) has hai'
  have l0 := limits33_c (E := E) 0
  have l4 := limits33_c (E := E) 4
  simp at l0 l4
  have hstp := Tm.star_put a x 0
  rcases mjRes_or (Tm.put a 0 x) with ⟨q1, _, z1⟩ | q1
  rotate_left
  · rw [q1] at d1
    simp at d1
    generalize (Tm.put a 0 x).raw = w at c8 d1
    rcases mjRes_or x with ⟨q2, _, z2⟩ | q2 <;> rcases mjRes_or a with ⟨q3, _, z3⟩ | q3 <;>
    · rw [q2] at d2
      rw [q3] at d3
      simp at c8 d2 d3
      refine den_w0 (fn := Tryz.f6) (by rfl) (by rfl) (by kernel_rfl) rfl (by rfl) ?_
      simp -implicitDefEqProofs
      (repeat (first | refine Wp.seq ?_ | refine Wp.block ?_ | refine Wp.skip ?_ | refine Wp.exit ?_ | refine Wp.ret ?_ | refine thenK_n ?_ | refine thenK_r ?_ | refine thenK_e ?_ | refine blockK_n ?_ | refine blockK_r ?_ | refine blockK_e ?_ | refine blockK_o (by decide) ?_ | (refine Wp.condT ?_ ?_; focus (simp -implicitDefEqProofs [awake33_c, c1, c2, c3, c4, c5, c6, c7, c8, d1, d2, d3, l0, l4, a1, a2, -append_full] <;> fail)) | (refine Wp.condF ?_ ?_; focus (simp -implicitDefEqProofs [awake33_c, c1, c2, c3, c4, c5, c6, c7, c8, d1, d2, d3, l0, l4, a1, a2, -append_full] <;> fail)) | refine Wp.reg (by simp -implicitDefEqProofs [awake33_c, c1, c2, c3, c4, c5, c6, c7, c8, d1, d2, d3, l0, l4, a1, a2, -append_full]; exact ⟨rfl, rfl⟩) ?_ | refine Wp.regA (by simp -implicitDefEqProofs [awake33_c, c1, c2, c3, c4, c5, c6, c7, c8, d1, d2, d3, l0, l4, a1, a2, -append_full]; exact ⟨rfl, rfl⟩) (by rfl) ?_))
      (apply endK_r; (focus (simp -implicitDefEqProofs [Tryz.f6]; try rfl)); (focus (intro g; simp -implicitDefEqProofs [Tryz.f6])); exact ⟨_, rfl⟩)
  rw [q1] at d1
  rcases mjRes_or x with ⟨q2, _, z2⟩ | q2
  rotate_left
  · rw [q2] at d2
    generalize (Tm.put a 0 x).star = w' at d1
    generalize (Tm.put a 0 x).raw = w at c8 d1
    rcases mjRes_or a with ⟨q3, _, z3⟩ | q3 <;>
    · rw [q3] at d3
      simp at c8 d1 d2 d3
      refine den_w0 (fn := Tryz.f6) (by rfl) (by rfl) (by kernel_rfl) rfl (by rfl) ?_
      simp -implicitDefEqProofs
      (repeat (first | refine Wp.seq ?_ | refine Wp.block ?_ | refine Wp.skip ?_ | refine Wp.exit ?_ | refine Wp.ret ?_ | refine thenK_n ?_ | refine thenK_r ?_ | refine thenK_e ?_ | refine blockK_n ?_ | refine blockK_r ?_ | refine blockK_e ?_ | refine blockK_o (by decide) ?_ | (refine Wp.condT ?_ ?_; focus (simp -implicitDefEqProofs [awake33_c, c1, c2, c3, c4, c5, c6, c7, c8, d1, d2, d3, l0, l4, a1, a2, -append_full] <;> fail)) | (refine Wp.condF ?_ ?_; focus (simp -implicitDefEqProofs [awake33_c, c1, c2, c3, c4, c5, c6, c7, c8, d1, d2, d3, l0, l4, a1, a2, -append_full] <;> fail)) | refine Wp.reg (by simp -implicitDefEqProofs [awake33_c, c1, c2, c3, c4, c5, c6, c7, c8, d1, d2, d3, l0, l4, a1, a2, -append_full]; exact ⟨rfl, rfl⟩) ?_ | refine Wp.regA (by simp -implicitDefEqProofs [awake33_c, c1, c2, c3, c4, c5, c6, c7, c8, d1, d2, d3, l0, l4, a1, a2, -append_full]; exact ⟨rfl, rfl⟩) (by rfl) ?_))
      (apply endK_r; (focus (simp -implicitDefEqProofs [Tryz.f6]; try rfl)); (focus (intro g; simp -implicitDefEqProofs [Tryz.f6])); exact ⟨_, rfl⟩)
  rw [q2] at d2
  rcases mjRes_or a with ⟨q3, _, z3⟩ | q3
  rotate_left
  · rw [q3] at d3
    generalize (Tm.put a 0 x).star = w' at d1
    generalize (Tm.put a 0 x).raw = w at c8 d1
    simp at c8 d1 d2 d3
    refine den_w0 (fn := Tryz.f6) (by rfl) (by rfl) (by kernel_rfl) rfl (by rfl) ?_
    simp -implicitDefEqProofs
    (repeat (first | refine Wp.seq ?_ | refine Wp.block ?_ | refine Wp.skip ?_ | refine Wp.exit ?_ | refine Wp.ret ?_ | refine thenK_n ?_ | refine thenK_r ?_ | refine thenK_e ?_ | refine blockK_n ?_ | refine blockK_r ?_ | refine blockK_e ?_ | refine blockK_o (by decide) ?_ | (refine Wp.condT ?_ ?_; focus (simp -implicitDefEqProofs [awake33_c, c1, c2, c3, c4, c5, c6, c7, c8, d1, d2, d3, l0, l4, a1, a2, -append_full] <;> fail)) | (refine Wp.condF ?_ ?_; focus (simp -implicitDefEqProofs [awake33_c, c1, c2, c3, c4, c5, c6, c7, c8, d1, d2, d3, l0, l4, a1, a2, -append_full] <;> fail)) | refine Wp.reg (by simp -implicitDefEqProofs [awake33_c, c1, c2, c3, c4, c5, c6, c7, c8, d1, d2, d3, l0, l4, a1, a2, -append_full]; exact ⟨rfl, rfl⟩) ?_ | refine Wp.regA (by simp -implicitDefEqProofs [awake33_c, c1, c2, c3, c4, c5, c6, c7, c8, d1, d2, d3, l0, l4, a1, a2, -append_full]; exact ⟨rfl, rfl⟩) (by rfl) ?_))
    (apply endK_r; (focus (simp -implicitDefEqProofs [Tryz.f6]; try rfl)); (focus (intro g; simp -implicitDefEqProofs [Tryz.f6])); exact ⟨_, rfl⟩)
  rw [q3] at d3
  obtain ⟨d', hsx, _⟩ := hsemx.star
  obtain ⟨d'', hsa, _⟩ := hsema.star
  have hxi2 : x.star.idx (40000) = true := by have := hsx.idx; exact Tm.idx_mono (by simp; omega) _ this
  have hai2 : a.star.idx (40000) = true := by have := hsa.idx; exact Tm.idx_mono (by simp; omega) _ this
  have c9 := put3_c (E := E) (t := x.star) (s := a.star) (b := 40000) (by omega) (T.Tm.star_small x hxs) hxi2 (by omega) (T.Tm.star_small a has) hai2 (by omega)
  rcases putRes_or x.star a.star with ⟨hp2, hpz2⟩ | hp2
  · rw [hp2, ← hstp] at c9
    have hn : (Tm.put a 0 x).star.raw.nodes ≤ 1000000000 := by have := (Tm.put a 0 x).star.raw_nodes (T.Tm.star_small _ hws); omega
    have c10 := same2_c (E := E) (k := (Tm.put a 0 x).star.raw.k) (i := (Tm.put a 0 x).star.raw.i) (m := (Tm.put a 0 x).star.raw.ty.k) (us := (Tm.put a 0 x).star.raw.ty.as) (ts := (Tm.put a 0 x).star.raw.as) (by simpa using hn)
    generalize (Tm.put a 0 x).star = w' at d1 c9 c10
    generalize (Tm.put a 0 x).raw = w at c8 d1
    simp at c8 d1 d2 d3 c9 c10
    refine den_w0 (fn := Tryz.f6) (by rfl) (by rfl) (by kernel_rfl) rfl (by rfl) ?_
    simp -implicitDefEqProofs
    (repeat (first | refine Wp.seq ?_ | refine Wp.block ?_ | refine Wp.skip ?_ | refine Wp.exit ?_ | refine Wp.ret ?_ | refine thenK_n ?_ | refine thenK_r ?_ | refine thenK_e ?_ | refine blockK_n ?_ | refine blockK_r ?_ | refine blockK_e ?_ | refine blockK_o (by decide) ?_ | (refine Wp.condT ?_ ?_; focus (simp -implicitDefEqProofs [awake33_c, c1, c2, c3, c4, c5, c6, c7, c8, d1, d2, d3, c9, c10, l0, l4, a1, a2, -append_full] <;> fail)) | (refine Wp.condF ?_ ?_; focus (simp -implicitDefEqProofs [awake33_c, c1, c2, c3, c4, c5, c6, c7, c8, d1, d2, d3, c9, c10, l0, l4, a1, a2, -append_full] <;> fail)) | refine Wp.reg (by simp -implicitDefEqProofs [awake33_c, c1, c2, c3, c4, c5, c6, c7, c8, d1, d2, d3, c9, c10, l0, l4, a1, a2, -append_full]; exact ⟨rfl, rfl⟩) ?_ | refine Wp.regA (by simp -implicitDefEqProofs [awake33_c, c1, c2, c3, c4, c5, c6, c7, c8, d1, d2, d3, c9, c10, l0, l4, a1, a2, -append_full]; exact ⟨rfl, rfl⟩) (by rfl) ?_))
    (apply endK_r; (focus (simp -implicitDefEqProofs [Tryz.f6]; try rfl)); (focus (intro g; simp -implicitDefEqProofs [Tryz.f6])); exact ⟨_, rfl⟩)
  · rw [hp2] at c9
    generalize (Tm.put a 0 x).star = w' at d1
    generalize (Tm.put a 0 x).raw = w at c8 d1
    simp at c8 d1 d2 d3 c9
    refine den_w0 (fn := Tryz.f6) (by rfl) (by rfl) (by kernel_rfl) rfl (by rfl) ?_
    simp -implicitDefEqProofs
    (repeat (first | refine Wp.seq ?_ | refine Wp.block ?_ | refine Wp.skip ?_ | refine Wp.exit ?_ | refine Wp.ret ?_ | refine thenK_n ?_ | refine thenK_r ?_ | refine thenK_e ?_ | refine blockK_n ?_ | refine blockK_r ?_ | refine blockK_e ?_ | refine blockK_o (by decide) ?_ | (refine Wp.condT ?_ ?_; focus (simp -implicitDefEqProofs [awake33_c, c1, c2, c3, c4, c5, c6, c7, c8, d1, d2, d3, c9, l0, l4, a1, a2, -append_full] <;> fail)) | (refine Wp.condF ?_ ?_; focus (simp -implicitDefEqProofs [awake33_c, c1, c2, c3, c4, c5, c6, c7, c8, d1, d2, d3, c9, l0, l4, a1, a2, -append_full] <;> fail)) | refine Wp.reg (by simp -implicitDefEqProofs [awake33_c, c1, c2, c3, c4, c5, c6, c7, c8, d1, d2, d3, c9, l0, l4, a1, a2, -append_full]; exact ⟨rfl, rfl⟩) ?_ | refine Wp.regA (by simp -implicitDefEqProofs [awake33_c, c1, c2, c3, c4, c5, c6, c7, c8, d1, d2, d3, c9, l0, l4, a1, a2, -append_full]; exact ⟨rfl, rfl⟩) (by rfl) ?_))
    (apply endK_r; (focus (simp -implicitDefEqProofs [Tryz.f6]; try rfl)); (focus (intro g; simp -implicitDefEqProofs [Tryz.f6])); exact ⟨_, rfl⟩)
end M
end Go.Proofs.YthclcchnodjjpaaGreatDoor
