/- A part of the proof: CaA, VaC, LwA. -/
import Derived.Test.YthclcchnodjjpaaGreatDoorG22
import Derived.Test.YthclcchnodjjpaaGreatDoorG24
import Derived.Test.YthclcchnodjjpaaGreatDoorG26
import Derived.Test.YthclcchnodjjpaaGreatDoorG11
import Derived.Test.YthclcchnodjjpaaGreatDoorG23
import Derived.Test.YthclcchnodjjpaaGreatDoorG15
import Derived.Test.YthclcchnodjjpaaGreatDoorG19
/- ref06: Call with no value, one, two; Eval. -/
set_option linter.unusedVariables false
set_option linter.unusedSimpArgs false
set_option maxRecDepth 10000
set_option maxHeartbeats 4000000
namespace Go.Proofs.YthclcchnodjjpaaGreatDoor
namespace M
attribute [local irreducible] Wp thenK blockK endK
variable {E : Oracle}
open T (V Ty Tm noTy Eval Ans Res evM callV VT VB ET EB Okr Fine Env tyR resT resE)
attribute [local simp] noTy
def zeroV : RV := .mk 0 0 [] []
@[simp] theorem zeroV_eq : zeroV = .mk 0 0 [] [] := rfl
/-- What Call returns. -/
def callRes (q : Res) (p : Ans) : RV × Int × Int := match q with
  | .inr e => (zeroV, 0, e)
  | .inl _ => if p.2.2 = true then (zeroV, 0, 5) else (V.rv p.1, p.2.1, 0)
def callEnc (x : RV × Int × Int) : AV := .tup [x.1.enc, .int .i64 x.2.1, .int .i64 x.2.2]
/-- The machine on a closed term; on a closed function and values. -/
def run0 (M : Nat) (t : Tm) : Ans := evM M (M + 1) 0 [] t
def run1 (M : Nat) (t : Tm) (v : V) : Ans := if (run0 M t).2.2 = true then run0 M t else callV (evM M (M + 1)) (run0 M t).2.1 (run0 M t).1 v
def run2 (M : Nat) (t : Tm) (v w : V) : Ans := if (run1 M t v).2.2 = true then run1 M t v else callV (evM M (M + 1)) (run1 M t v).2.1 (run1 M t v).1 w
theorem run0_okr {M C : Nat} {t : Tm} {s : Ty} {d : Env [] → s.den} (h : T.Sem [] t s d) : Okr C M 0 s (.tm [] t) (run0 M t) := T.evM_fine M (M + 1) C 0 [] t [] s d h T.ET.nil (T.EB.nil C) (Nat.zero_le _) (by omega)
theorem run1_okr {M C : Nat} {t : Tm} {a s : Ty} {d : Env [] → (Ty.fn a s).den} {v : V} (h : T.Sem [] t (.fn a s) d) (hv : VD a v) (hn : VN C v) :
    (run1 M t v).2.1 ≤ M ∧ ((run1 M t v).2.2 = false → ∃ b e m k m' k', T.Ev (.tm [] t) (.clo b e) m k ∧ T.Ev (.tm (v :: e) b) (run1 M t v).1 m' k' ∧ (run1 M t v).2.1 = m + m' ∧ VT s (run1 M t v).1 ∧ VB (C + m + m') (run1 M t v).1) := by
  obtain ⟨h1, h2, h3⟩ := run0_okr (M := M) (C := C) h
  unfold run1
  by_cases o : (run0 M t).2.2 = true
  · rw [if_pos o]
    exact ⟨h2, fun h => by rw [o] at h; cases h⟩
  · rw [if_neg o]
    obtain ⟨t1, m, k, q1, q2, q3⟩ := h3 (by simpa using o)
    obtain ⟨b, e, hf, g1, g2, g3⟩ := (T.evM_fine M (M + 1)).call (C := C + m) (u := (run0 M t).2.1) t1 q3 hv.vt (hn.vb.mono (by omega)) h2 (by omega)
    refine ⟨g2, fun h => ?_⟩
    obtain ⟨t2, m', k', r1, r2, r3⟩ := g3 h
    rw [hf] at q1
    exact ⟨b, e, m, k, m', k', q1, r1, by omega, t2, r3⟩
theorem run2_okr {M C : Nat} {t : Tm} {a b s : Ty} {d : Env [] → (Ty.fn a (.fn b s)).den} {v w : V} (h : T.Sem [] t (.fn a (.fn b s)) d) (hv : VD a v) (hn : VN C v) (hw : VD b w) (hn2 : VN C w) :
    (run2 M t v w).2.1 ≤ M ∧ ((run2 M t v w).2.2 = false → ∃ c e c' e' m k m' k' m'' k'', T.Ev (.tm [] t) (.clo c e) m k ∧ T.Ev (.tm (v :: e) c) (.clo c' e') m' k' ∧ T.Ev (.tm (w :: e') c') (run2 M t v w).1 m'' k'' ∧ (run2 M t v w).2.1 = m + m' + m'' ∧ VT s (run2 M t v w).1 ∧ VB (C + m + m' + m'') (run2 M t v w).1) := by
  obtain ⟨h1, h2⟩ := run1_okr (M := M) (C := C) h hv hn
  unfold run2
  by_cases o : (run1 M t v).2.2 = true
  · rw [if_pos o]
    exact ⟨h1, fun h => by rw [o] at h; cases h⟩
  · rw [if_neg o]
    obtain ⟨c, e, m, k, m', k', q1, q2, q3, t1, q4⟩ := h2 (by simpa using o)
    obtain ⟨c', e', hf, g1, g2, g3⟩ := (T.evM_fine M (M + 1)).call (C := C + m + m') (u := (run1 M t v).2.1) t1 q4 hw.vt (hn2.vb.mono (by omega)) h1 (by omega)
    refine ⟨g2, fun h => ?_⟩
    obtain ⟨t2, m'', k'', r1, r2, r3⟩ := g3 h
    rw [hf] at q2
    exact ⟨c, e, c', e', m, k, m', k', m'', k'', q1, q2, r1, by omega, t2, r3⟩
theorem res_raw {q : Res} {s : Ty} (h : q = .inl s ∨ q = .inr 4) : (q = .inl s ∧ resT q = s.raw ∧ resE q = 0) ∨ (q = .inr 4 ∧ resT q = .mk 0 [] ∧ resE q = 4) := by
  rcases h with rfl | rfl
  · exact .inl ⟨rfl, rfl, rfl⟩
  · exact .inr ⟨rfl, rfl, rfl⟩
theorem rcall0 {M : Nat} {t : Tm} {s : Ty} {d : Env [] → s.den} (h : T.Sem [] t s d) (hd : s.data = true) (hts : t.small = true) (hsz : t.size ≤ 4096) (hM : M ≤ 65536) :
    den X E 19 [t.raw.enc, .sl [] .dead, .int .i64 M] [] = some (callEnc (callRes (tyR [] t) (run0 M t)), []) := by
  have c1 := typeOf2_c (E := E) (t := t) (G := []) hsz (by simp) hts (by simp)
  have hM1 : ¬ (M : Int) < 0 := by omega
  have hM2 : ¬ (65536 : Int) < M := by omega
  simp only [List.reverse_nil] at c1
  rcases res_raw h.tyR with ⟨e1, e2, e3⟩ | ⟨e1, e2, e3⟩
  rotate_left
  · simp [e2, e3] at c1
    rw [e1]
    simp only [callRes, callEnc]
    refine den_w0 (fn := Tryz.f19) (by rfl) (by rfl) (by kernel_rfl) rfl (by rfl) ?_
    simp -implicitDefEqProofs
    (repeat (first | refine Wp.seq ?_ | refine Wp.block ?_ | refine Wp.skip ?_ | refine Wp.exit ?_ | refine Wp.ret ?_ | refine thenK_n ?_ | refine thenK_r ?_ | refine thenK_e ?_ | refine blockK_n ?_ | refine blockK_r ?_ | refine blockK_e ?_ | refine blockK_o (by decide) ?_ | (refine Wp.condT ?_ ?_; focus (simp -implicitDefEqProofs [c1] <;> fail)) | (refine Wp.condF ?_ ?_; focus (simp -implicitDefEqProofs [c1] <;> fail)) | refine Wp.reg (by simp -implicitDefEqProofs [c1]; exact ⟨rfl, rfl⟩) ?_ | refine Wp.regA (by simp -implicitDefEqProofs [c1]; exact ⟨rfl, rfl⟩) (by rfl) ?_ | refine Wp.unroll ?_))
    (apply endK_r; (focus (simp -implicitDefEqProofs [Tryz.f19]; try rfl)); (focus (intro g; simp -implicitDefEqProofs [Tryz.f19])); exact ⟨_, rfl⟩)
  simp [e2, e3] at c1
  have hss : s.size ≤ 64 := T.tyR_small t (by simp) hts e1
  rw [e1]
  simp only [callRes, callEnc]
  have c2 := data1_c (E := E) (s := s) hss
  simp [hd] at c2
  have c3 := evD_c (evalGd (E := E) M (by omega) (M + 1) 0 0 [] t [] s d h T.ET.nil (T.EB.nil 0) (Nat.zero_le _) (by omega) (by omega))
  rw [show evM M (M + 1) 0 [] t = run0 M t from rfl] at c3
  obtain ⟨h1, h2, h3⟩ := run0_okr (M := M) (C := 0) h
  by_cases o : (run0 M t).2.2 = true
  · rw [if_pos o]
    simp [o] at c3
    refine den_w0 (fn := Tryz.f19) (by rfl) (by rfl) (by kernel_rfl) rfl (by rfl) ?_
    simp -implicitDefEqProofs
    (repeat (first | refine Wp.seq ?_ | refine Wp.block ?_ | refine Wp.skip ?_ | refine Wp.exit ?_ | refine Wp.ret ?_ | refine thenK_n ?_ | refine thenK_r ?_ | refine thenK_e ?_ | refine blockK_n ?_ | refine blockK_r ?_ | refine blockK_e ?_ | refine blockK_o (by decide) ?_ | (refine Wp.condT ?_ ?_; focus (simp -implicitDefEqProofs [c1, c2, c3, hM1, hM2] <;> fail)) | (refine Wp.condF ?_ ?_; focus (simp -implicitDefEqProofs [c1, c2, c3, hM1, hM2] <;> fail)) | refine Wp.reg (by simp -implicitDefEqProofs [c1, c2, c3, hM1, hM2]; exact ⟨rfl, rfl⟩) ?_ | refine Wp.regA (by simp -implicitDefEqProofs [c1, c2, c3, hM1, hM2]; exact ⟨rfl, rfl⟩) (by rfl) ?_ | refine Wp.unroll ?_))
    (apply endK_r; (focus (simp -implicitDefEqProofs [Tryz.f19]; try rfl)); (focus (intro g; simp -implicitDefEqProofs [Tryz.f19])); exact ⟨_, rfl⟩)
  · rw [if_neg o]
    have o' : (run0 M t).2.2 = false := by simpa using o
    obtain ⟨t1, m, k, q1, q2, q3⟩ := h3 o'
    have c4 := plain6_c (E := E) (VT.vd t1 hd) ((VB.vn (VT.vd t1 hd) q3).mono (by omega))
    simp [o'] at c3
    refine den_w0 (fn := Tryz.f19) (by rfl) (by rfl) (by kernel_rfl) rfl (by rfl) ?_
    simp -implicitDefEqProofs
    (repeat (first | refine Wp.seq ?_ | refine Wp.block ?_ | refine Wp.skip ?_ | refine Wp.exit ?_ | refine Wp.ret ?_ | refine thenK_n ?_ | refine thenK_r ?_ | refine thenK_e ?_ | refine blockK_n ?_ | refine blockK_r ?_ | refine blockK_e ?_ | refine blockK_o (by decide) ?_ | (refine Wp.condT ?_ ?_; focus (simp -implicitDefEqProofs [c1, c2, c3, c4, hM1, hM2] <;> fail)) | (refine Wp.condF ?_ ?_; focus (simp -implicitDefEqProofs [c1, c2, c3, c4, hM1, hM2] <;> fail)) | refine Wp.reg (by simp -implicitDefEqProofs [c1, c2, c3, c4, hM1, hM2]; exact ⟨rfl, rfl⟩) ?_ | refine Wp.regA (by simp -implicitDefEqProofs [c1, c2, c3, c4, hM1, hM2]; exact ⟨rfl, rfl⟩) (by rfl) ?_ | refine Wp.unroll ?_))
    (apply endK_r; (focus (simp -implicitDefEqProofs [Tryz.f19]; try rfl)); (focus (intro g; simp -implicitDefEqProofs [Tryz.f19])); exact ⟨_, rfl⟩)
theorem rcall1 {M C : Nat} {t : Tm} {a s : Ty} {v : V} {d : Env [] → (Ty.fn a s).den} (h : T.Sem [] t (.fn a s) d) (hd : s.data = true) (hv : VD a v) (hn : VN C v) (hC : C ≤ 100000000) (hts : t.small = true) (hsz : t.size ≤ 4096) (hM : M ≤ 65536) :
    den X E 19 [t.raw.enc, .sl [(V.rv v).cells] .dead, .int .i64 M] [] = some (callEnc (callRes (tyR [] t) (run1 M t v)), []) := by
  have c1 := typeOf2_c (E := E) (t := t) (G := []) hsz (by simp) hts (by simp)
  have hM1 : ¬ (M : Int) < 0 := by omega
  have hM2 : ¬ (65536 : Int) < M := by omega
  have hw1 : IntKind.i64.wrap 1 = 1 := by decide
  simp only [List.reverse_nil] at c1
  rcases res_raw h.tyR with ⟨e1, e2, e3⟩ | ⟨e1, e2, e3⟩
  rotate_left
  · simp [e2, e3] at c1
    rw [e1]
    simp only [callRes, callEnc]
    refine den_w0 (fn := Tryz.f19) (by rfl) (by rfl) (by kernel_rfl) rfl (by rfl) ?_
    simp -implicitDefEqProofs
    (repeat (first | refine Wp.seq ?_ | refine Wp.block ?_ | refine Wp.skip ?_ | refine Wp.exit ?_ | refine Wp.ret ?_ | refine thenK_n ?_ | refine thenK_r ?_ | refine thenK_e ?_ | refine blockK_n ?_ | refine blockK_r ?_ | refine blockK_e ?_ | refine blockK_o (by decide) ?_ | (refine Wp.condT ?_ ?_; focus (simp -implicitDefEqProofs [c1] <;> fail)) | (refine Wp.condF ?_ ?_; focus (simp -implicitDefEqProofs [c1] <;> fail)) | refine Wp.reg (by simp -implicitDefEqProofs [c1]; exact ⟨rfl, rfl⟩) ?_ | refine Wp.regA (by simp -implicitDefEqProofs [c1]; exact ⟨rfl, rfl⟩) (by rfl) ?_ | refine Wp.unroll ?_))
    (apply endK_r; (focus (simp -implicitDefEqProofs [Tryz.f19]; try rfl)); (focus (intro g; simp -implicitDefEqProofs [Tryz.f19])); exact ⟨_, rfl⟩)
  simp [e2, e3, Ty.raw] at c1
  have hss : (Ty.fn a s).size ≤ 64 := T.tyR_small t (by simp) hts e1
  simp only [Ty.size] at hss
  rw [e1]
  simp only [callRes, callEnc]
  have c2 := data1_c (E := E) (s := s) (by omega)
  simp [hd] at c2
  have c5 := typeOf5_c (E := E) hv (hn.mono (by omega)) (by omega)
  have c6 := sameTy_c (E := E) (s := a) (u := a) (by omega)
  have c7 := of6_c (E := E) hv
  simp at c6
  have c3 := evD_c (evalGd (E := E) M (by omega) (M + 1) 0 0 [] t [] _ d h T.ET.nil (T.EB.nil 0) (Nat.zero_le _) (by omega) (by omega))
  rw [show evM M (M + 1) 0 [] t = run0 M t from rfl] at c3
  obtain ⟨h1, h2, h3⟩ := run0_okr (M := M) (C := C) h
  have hr1 := run1_okr (M := M) h hv hn
  by_cases o : (run0 M t).2.2 = true
  · have hr : run1 M t v = run0 M t := by unfold run1; rw [if_pos o]
    rw [hr, if_pos o]
    simp [o] at c3
    refine den_w0 (fn := Tryz.f19) (by rfl) (by rfl) (by kernel_rfl) rfl (by rfl) ?_
    simp -implicitDefEqProofs
    (repeat (first | refine Wp.seq ?_ | refine Wp.block ?_ | refine Wp.skip ?_ | refine Wp.exit ?_ | refine Wp.ret ?_ | refine thenK_n ?_ | refine thenK_r ?_ | refine thenK_e ?_ | refine blockK_n ?_ | refine blockK_r ?_ | refine blockK_e ?_ | refine blockK_o (by decide) ?_ | (refine Wp.condT ?_ ?_; focus (simp -implicitDefEqProofs [c1, c2, c3, c5, c6, hM1, hM2, hw1] <;> fail)) | (refine Wp.condF ?_ ?_; focus (simp -implicitDefEqProofs [c1, c2, c3, c5, c6, hM1, hM2, hw1] <;> fail)) | refine Wp.reg (by simp -implicitDefEqProofs [c1, c2, c3, c5, c6, hM1, hM2, hw1]; exact ⟨rfl, rfl⟩) ?_ | refine Wp.regA (by simp -implicitDefEqProofs [c1, c2, c3, c5, c6, hM1, hM2, hw1]; exact ⟨rfl, rfl⟩) (by rfl) ?_ | refine Wp.unroll ?_))
    (apply endK_r; (focus (simp -implicitDefEqProofs [Tryz.f19]; try rfl)); (focus (intro g; simp -implicitDefEqProofs [Tryz.f19])); exact ⟨_, rfl⟩)
  have o' : (run0 M t).2.2 = false := by simpa using o
  obtain ⟨t1, m, k, q1, q2, q3⟩ := h3 o'
  have c8 := caD_c ((evalGd (E := E) M (by omega) (M + 1)).call (C := C + m) (u := (run0 M t).2.1) t1 q3 hv.vt (hn.vb.mono (by omega)) h2 (by omega) (by omega))
  have hr : run1 M t v = callV (evM M (M + 1)) (run0 M t).2.1 (run0 M t).1 v := by unfold run1; rw [if_neg o]
  rw [← hr] at c8
  simp [o'] at c3
  by_cases p : (run1 M t v).2.2 = true
  · rw [if_pos p]
    simp [p] at c8
    refine den_w0 (fn := Tryz.f19) (by rfl) (by rfl) (by kernel_rfl) rfl (by rfl) ?_
    simp -implicitDefEqProofs
    (repeat (first | refine Wp.seq ?_ | refine Wp.block ?_ | refine Wp.skip ?_ | refine Wp.exit ?_ | refine Wp.ret ?_ | refine thenK_n ?_ | refine thenK_r ?_ | refine thenK_e ?_ | refine blockK_n ?_ | refine blockK_r ?_ | refine blockK_e ?_ | refine blockK_o (by decide) ?_ | (refine Wp.condT ?_ ?_; focus (simp -implicitDefEqProofs [c1, c2, c3, c5, c6, c7, c8, hM1, hM2, hw1] <;> fail)) | (refine Wp.condF ?_ ?_; focus (simp -implicitDefEqProofs [c1, c2, c3, c5, c6, c7, c8, hM1, hM2, hw1] <;> fail)) | refine Wp.reg (by simp -implicitDefEqProofs [c1, c2, c3, c5, c6, c7, c8, hM1, hM2, hw1]; exact ⟨rfl, rfl⟩) ?_ | refine Wp.regA (by simp -implicitDefEqProofs [c1, c2, c3, c5, c6, c7, c8, hM1, hM2, hw1]; exact ⟨rfl, rfl⟩) (by rfl) ?_ | refine Wp.unroll ?_))
    (apply endK_r; (focus (simp -implicitDefEqProofs [Tryz.f19]; try rfl)); (focus (intro g; simp -implicitDefEqProofs [Tryz.f19])); exact ⟨_, rfl⟩)
  · rw [if_neg p]
    have p' : (run1 M t v).2.2 = false := by simpa using p
    obtain ⟨_, _, m1, _, m2, _, _, _, q4, t2, b2⟩ := hr1.2 p'
    have c4 := plain6_c (E := E) (VT.vd t2 hd) ((VB.vn (VT.vd t2 hd) b2).mono (by have := hr1.1; omega))
    simp [p'] at c8
    refine den_w0 (fn := Tryz.f19) (by rfl) (by rfl) (by kernel_rfl) rfl (by rfl) ?_
    simp -implicitDefEqProofs
    (repeat (first | refine Wp.seq ?_ | refine Wp.block ?_ | refine Wp.skip ?_ | refine Wp.exit ?_ | refine Wp.ret ?_ | refine thenK_n ?_ | refine thenK_r ?_ | refine thenK_e ?_ | refine blockK_n ?_ | refine blockK_r ?_ | refine blockK_e ?_ | refine blockK_o (by decide) ?_ | (refine Wp.condT ?_ ?_; focus (simp -implicitDefEqProofs [c1, c2, c3, c4, c5, c6, c7, c8, hM1, hM2, hw1] <;> fail)) | (refine Wp.condF ?_ ?_; focus (simp -implicitDefEqProofs [c1, c2, c3, c4, c5, c6, c7, c8, hM1, hM2, hw1] <;> fail)) | refine Wp.reg (by simp -implicitDefEqProofs [c1, c2, c3, c4, c5, c6, c7, c8, hM1, hM2, hw1]; exact ⟨rfl, rfl⟩) ?_ | refine Wp.regA (by simp -implicitDefEqProofs [c1, c2, c3, c4, c5, c6, c7, c8, hM1, hM2, hw1]; exact ⟨rfl, rfl⟩) (by rfl) ?_ | refine Wp.unroll ?_))
    (apply endK_r; (focus (simp -implicitDefEqProofs [Tryz.f19]; try rfl)); (focus (intro g; simp -implicitDefEqProofs [Tryz.f19])); exact ⟨_, rfl⟩)
theorem rcall2 {M C : Nat} {t : Tm} {a b s : Ty} {v w : V} {d : Env [] → (Ty.fn a (.fn b s)).den} (h : T.Sem [] t (.fn a (.fn b s)) d) (hd : s.data = true) (hv : VD a v) (hn : VN C v) (hw : VD b w) (hn2 : VN C w) (hC : C ≤ 100000000) (hts : t.small = true) (hsz : t.size ≤ 4096) (hM : M ≤ 65536) :
    den X E 19 [t.raw.enc, .sl [(V.rv v).cells, (V.rv w).cells] .dead, .int .i64 M] [] = some (callEnc (callRes (tyR [] t) (run2 M t v w)), []) := by
  have c1 := typeOf2_c (E := E) (t := t) (G := []) hsz (by simp) hts (by simp)
  have hM1 : ¬ (M : Int) < 0 := by omega
  have hM2 : ¬ (65536 : Int) < M := by omega
  have hw1 : IntKind.i64.wrap 1 = 1 := by decide
  have hw2 : IntKind.i64.wrap 2 = 2 := by decide
  simp only [List.reverse_nil] at c1
  rcases res_raw h.tyR with ⟨e1, e2, e3⟩ | ⟨e1, e2, e3⟩
  rotate_left
  · simp [e2, e3] at c1
    rw [e1]
    simp only [callRes, callEnc]
    refine den_w0 (fn := Tryz.f19) (by rfl) (by rfl) (by kernel_rfl) rfl (by rfl) ?_
    simp -implicitDefEqProofs
    (repeat (first | refine Wp.seq ?_ | refine Wp.block ?_ | refine Wp.skip ?_ | refine Wp.exit ?_ | refine Wp.ret ?_ | refine thenK_n ?_ | refine thenK_r ?_ | refine thenK_e ?_ | refine blockK_n ?_ | refine blockK_r ?_ | refine blockK_e ?_ | refine blockK_o (by decide) ?_ | (refine Wp.condT ?_ ?_; focus (simp -implicitDefEqProofs [c1] <;> fail)) | (refine Wp.condF ?_ ?_; focus (simp -implicitDefEqProofs [c1] <;> fail)) | refine Wp.reg (by simp -implicitDefEqProofs [c1]; exact ⟨rfl, rfl⟩) ?_ | refine Wp.regA (by simp -implicitDefEqProofs [c1]; exact ⟨rfl, rfl⟩) (by rfl) ?_ | refine Wp.unroll ?_))
    (apply endK_r; (focus (simp -implicitDefEqProofs [Tryz.f19]; try rfl)); (focus (intro g; simp -implicitDefEqProofs [Tryz.f19])); exact ⟨_, rfl⟩)
  simp [e2, e3, Ty.raw] at c1
  have hss : (Ty.fn a (.fn b s)).size ≤ 64 := T.tyR_small t (by simp) hts e1
  simp only [Ty.size] at hss
  rw [e1]
  simp only [callRes, callEnc]
  have c2 := data1_c (E := E) (s := s) (by omega)
  simp [hd] at c2
  have c5 := typeOf5_c (E := E) hv (hn.mono (by omega)) (by omega)
  have c5' := typeOf5_c (E := E) hw (hn2.mono (by omega)) (by omega)
  have c6 := sameTy_c (E := E) (s := a) (u := a) (by omega)
  have c6' := sameTy_c (E := E) (s := b) (u := b) (by omega)
  have c7 := of6_c (E := E) hv
  have c7' := of6_c (E := E) hw
  simp at c6 c6'
  have c3 := evD_c (evalGd (E := E) M (by omega) (M + 1) 0 0 [] t [] _ d h T.ET.nil (T.EB.nil 0) (Nat.zero_le _) (by omega) (by omega))
  rw [show evM M (M + 1) 0 [] t = run0 M t from rfl] at c3
  obtain ⟨h1, h2, h3⟩ := run0_okr (M := M) (C := C) h
  have hr1 := run1_okr (M := M) h hv hn
  have hr2 := run2_okr (M := M) h hv hn hw hn2
  by_cases o : (run0 M t).2.2 = true
  · have hr : run1 M t v = run0 M t := by unfold run1; rw [if_pos o]
    have hr' : run2 M t v w = run0 M t := by unfold run2; rw [hr, if_pos o]
    rw [hr', if_pos o]
    simp [o] at c3
    refine den_w0 (fn := Tryz.f19) (by rfl) (by rfl) (by kernel_rfl) rfl (by rfl) ?_
    simp -implicitDefEqProofs
    (repeat (first | refine Wp.seq ?_ | refine Wp.block ?_ | refine Wp.skip ?_ | refine Wp.exit ?_ | refine Wp.ret ?_ | refine thenK_n ?_ | refine thenK_r ?_ | refine thenK_e ?_ | refine blockK_n ?_ | refine blockK_r ?_ | refine blockK_e ?_ | refine blockK_o (by decide) ?_ | (refine Wp.condT ?_ ?_; focus (simp -implicitDefEqProofs [c1, c2, c3, c5, c6, c5', c6', hM1, hM2, hw1, hw2] <;> fail)) | (refine Wp.condF ?_ ?_; focus (simp -implicitDefEqProofs [c1, c2, c3, c5, c6, c5', c6', hM1, hM2, hw1, hw2] <;> fail)) | refine Wp.reg (by simp -implicitDefEqProofs [c1, c2, c3, c5, c6, c5', c6', hM1, hM2, hw1, hw2]; exact ⟨rfl, rfl⟩) ?_ | refine Wp.regA (by simp -implicitDefEqProofs [c1, c2, c3, c5, c6, c5', c6', hM1, hM2, hw1, hw2]; exact ⟨rfl, rfl⟩) (by rfl) ?_ | refine Wp.unroll ?_))
    (apply endK_r; (focus (simp -implicitDefEqProofs [Tryz.f19]; try rfl)); (focus (intro g; simp -implicitDefEqProofs [Tryz.f19])); exact ⟨_, rfl⟩)
  have o' : (run0 M t).2.2 = false := by simpa using o
  obtain ⟨t1, m, k, q1, q2, q3⟩ := h3 o'
  have c8 := caD_c ((evalGd (E := E) M (by omega) (M + 1)).call (C := C + m) (u := (run0 M t).2.1) t1 q3 hv.vt (hn.vb.mono (by omega)) h2 (by omega) (by omega))
  have hr : run1 M t v = callV (evM M (M + 1)) (run0 M t).2.1 (run0 M t).1 v := by unfold run1; rw [if_neg o]
  rw [← hr] at c8
  simp [o'] at c3
  by_cases p : (run1 M t v).2.2 = true
  · have hr' : run2 M t v w = run1 M t v := by unfold run2; rw [if_pos p]
    rw [hr', if_pos p]
    simp [p] at c8
    refine den_w0 (fn := Tryz.f19) (by rfl) (by rfl) (by kernel_rfl) rfl (by rfl) ?_
    simp -implicitDefEqProofs
    (repeat (first | refine Wp.seq ?_ | refine Wp.block ?_ | refine Wp.skip ?_ | refine Wp.exit ?_ | refine Wp.ret ?_ | refine thenK_n ?_ | refine thenK_r ?_ | refine thenK_e ?_ | refine blockK_n ?_ | refine blockK_r ?_ | refine blockK_e ?_ | refine blockK_o (by decide) ?_ | (refine Wp.condT ?_ ?_; focus (simp -implicitDefEqProofs [c1, c2, c3, c5, c6, c5', c6', c7, c8, hM1, hM2, hw1, hw2] <;> fail)) | (refine Wp.condF ?_ ?_; focus (simp -implicitDefEqProofs [c1, c2, c3, c5, c6, c5', c6', c7, c8, hM1, hM2, hw1, hw2] <;> fail)) | refine Wp.reg (by simp -implicitDefEqProofs [c1, c2, c3, c5, c6, c5', c6', c7, c8, hM1, hM2, hw1, hw2]; exact ⟨rfl, rfl⟩) ?_ | refine Wp.regA (by simp -implicitDefEqProofs [c1, c2, c3, c5, c6, c5', c6', c7, c8, hM1, hM2, hw1, hw2]; exact ⟨rfl, rfl⟩) (by rfl) ?_ | refine Wp.unroll ?_))
    (apply endK_r; (focus (simp -implicitDefEqProofs [Tryz.f19]; try rfl)); (focus (intro g; simp -implicitDefEqProofs [Tryz.f19])); exact ⟨_, rfl⟩)
  have p' : (run1 M t v).2.2 = false := by simpa using p
  obtain ⟨_, _, m1, _, m2, _, _, _, q4, t2, b2⟩ := hr1.2 p'
  have c9 := caD_c ((evalGd (E := E) M (by omega) (M + 1)).call (C := C + m1 + m2) (u := (run1 M t v).2.1) t2 b2 hw.vt (hn2.vb.mono (by omega)) hr1.1 (by omega) (by have := hr1.1; omega))
  have hr' : run2 M t v w = callV (evM M (M + 1)) (run1 M t v).2.1 (run1 M t v).1 w := by unfold run2; rw [if_neg p]
  rw [← hr'] at c9
  simp [p'] at c8
  by_cases q : (run2 M t v w).2.2 = true
  · rw [if_pos q]
    simp [q] at c9
    refine den_w0 (fn := Tryz.f19) (by rfl) (by rfl) (by kernel_rfl) rfl (by rfl) ?_
    simp -implicitDefEqProofs
    (repeat (first | refine Wp.seq ?_ | refine Wp.block ?_ | refine Wp.skip ?_ | refine Wp.exit ?_ | refine Wp.ret ?_ | refine thenK_n ?_ | refine thenK_r ?_ | refine thenK_e ?_ | refine blockK_n ?_ | refine blockK_r ?_ | refine blockK_e ?_ | refine blockK_o (by decide) ?_ | (refine Wp.condT ?_ ?_; focus (simp -implicitDefEqProofs [c1, c2, c3, c5, c6, c5', c6', c7, c7', c8, c9, hM1, hM2, hw1, hw2] <;> fail)) | (refine Wp.condF ?_ ?_; focus (simp -implicitDefEqProofs [c1, c2, c3, c5, c6, c5', c6', c7, c7', c8, c9, hM1, hM2, hw1, hw2] <;> fail)) | refine Wp.reg (by simp -implicitDefEqProofs [c1, c2, c3, c5, c6, c5', c6', c7, c7', c8, c9, hM1, hM2, hw1, hw2]; exact ⟨rfl, rfl⟩) ?_ | refine Wp.regA (by simp -implicitDefEqProofs [c1, c2, c3, c5, c6, c5', c6', c7, c7', c8, c9, hM1, hM2, hw1, hw2]; exact ⟨rfl, rfl⟩) (by rfl) ?_ | refine Wp.unroll ?_))
    (apply endK_r; (focus (simp -implicitDefEqProofs [Tryz.f19]; try rfl)); (focus (intro g; simp -implicitDefEqProofs [Tryz.f19])); exact ⟨_, rfl⟩)
  · rw [if_neg q]
    have q' : (run2 M t v w).2.2 = false := by simpa using q
    obtain ⟨_, _, _, _, n1, _, n2, _, n3, _, _, _, _, q5, t3, b3⟩ := hr2.2 q'
    have c4 := plain6_c (E := E) (VT.vd t3 hd) ((VB.vn (VT.vd t3 hd) b3).mono (by have := hr2.1; omega))
    simp [q'] at c9
    refine den_w0 (fn := Tryz.f19) (by rfl) (by rfl) (by kernel_rfl) rfl (by rfl) ?_
    simp -implicitDefEqProofs
    (repeat (first | refine Wp.seq ?_ | refine Wp.block ?_ | refine Wp.skip ?_ | refine Wp.exit ?_ | refine Wp.ret ?_ | refine thenK_n ?_ | refine thenK_r ?_ | refine thenK_e ?_ | refine blockK_n ?_ | refine blockK_r ?_ | refine blockK_e ?_ | refine blockK_o (by decide) ?_ | (refine Wp.condT ?_ ?_; focus (simp -implicitDefEqProofs [c1, c2, c3, c4, c5, c6, c5', c6', c7, c7', c8, c9, hM1, hM2, hw1, hw2] <;> fail)) | (refine Wp.condF ?_ ?_; focus (simp -implicitDefEqProofs [c1, c2, c3, c4, c5, c6, c5', c6', c7, c7', c8, c9, hM1, hM2, hw1, hw2] <;> fail)) | refine Wp.reg (by simp -implicitDefEqProofs [c1, c2, c3, c4, c5, c6, c5', c6', c7, c7', c8, c9, hM1, hM2, hw1, hw2]; exact ⟨rfl, rfl⟩) ?_ | refine Wp.regA (by simp -implicitDefEqProofs [c1, c2, c3, c4, c5, c6, c5', c6', c7, c7', c8, c9, hM1, hM2, hw1, hw2]; exact ⟨rfl, rfl⟩) (by rfl) ?_ | refine Wp.unroll ?_))
    (apply endK_r; (focus (simp -implicitDefEqProofs [Tryz.f19]; try rfl)); (focus (intro g; simp -implicitDefEqProofs [Tryz.f19])); exact ⟨_, rfl⟩)
theorem revalE {M : Nat} {t : Tm} {s : Ty} {d : Env [] → s.den} (h : T.Sem [] t s d) (hd : s.data = true) (hts : t.small = true) (hsz : t.size ≤ 4096) (hM : M ≤ 65536) :
    den X E 38 [t.raw.enc, .int .i64 M] [] = some (callEnc (callRes (tyR [] t) (run0 M t)), []) := by
  obtain ⟨x, hx⟩ : ∃ x, callRes (tyR [] t) (run0 M t) = x := ⟨_, rfl⟩
  have c1 : ∀ (g : Nat) (S : St) (o1 o2 o3 : Own), callT (X.at g) (den X E) S 19 [.agg [.int .i64 t.raw.k, .int .i64 t.raw.i, .int .i64 t.raw.ty.k, .sl (List.map RT.cells t.raw.ty.as) o1, .sl (List.map RM.cells t.raw.as) o2], .sl [] o3, .int .i64 M] = some (.tup [.agg [.int .i64 x.1.k, .int .i64 x.1.n, .sl (List.map ic x.1.l) .dead, .sl (List.map RV.cells x.1.as) .dead], .int .i64 x.2.1, .int .i64 x.2.2], S) := by
    intros
    simpa using call_up (cf := X.at _) (fn := Tryz.f19) (args' := [_, _, _]) (by kernel_rfl) (by simp) (by simp; try rfl) (by simpa [callEnc, hx] using rcall0 (E := E) h hd hts hsz hM) _
  rw [hx]
  simp only [callEnc]
  refine den_w0 (fn := Tryz.f38) (by rfl) (by rfl) (by kernel_rfl) rfl (by rfl) ?_
  simp -implicitDefEqProofs
  (repeat (first | refine Wp.seq ?_ | refine Wp.block ?_ | refine Wp.skip ?_ | refine Wp.exit ?_ | refine Wp.ret ?_ | refine thenK_n ?_ | refine thenK_r ?_ | refine thenK_e ?_ | refine blockK_n ?_ | refine blockK_r ?_ | refine blockK_e ?_ | refine blockK_o (by decide) ?_ | (refine Wp.condT ?_ ?_; focus (simp -implicitDefEqProofs [c1] <;> fail)) | (refine Wp.condF ?_ ?_; focus (simp -implicitDefEqProofs [c1] <;> fail)) | refine Wp.reg (by simp -implicitDefEqProofs [c1]; exact ⟨rfl, rfl⟩) ?_ | refine Wp.regA (by simp -implicitDefEqProofs [c1]; exact ⟨rfl, rfl⟩) (by rfl) ?_ | refine Wp.unroll ?_))
  (apply endK_r; (focus (simp -implicitDefEqProofs [Tryz.f38]; try rfl)); (focus (intro g; simp -implicitDefEqProofs [Tryz.f38])); exact ⟨_, rfl⟩)
end M
end Go.Proofs.YthclcchnodjjpaaGreatDoor
/- value: nodes, Check; majorant: bound, Value, over, Majorizes; ref33: value, Value; on plain values. -/
set_option linter.unusedVariables false
set_option linter.unusedSimpArgs false
set_option maxRecDepth 10000
set_option maxHeartbeats 4000000
namespace Go.Proofs.YthclcchnodjjpaaGreatDoor
namespace M
attribute [local irreducible] Wp thenK blockK endK
variable {E : Oracle}
open T (V Ty Tm noTy VT VB)
attribute [local simp] noTy
theorem negFn (n : Int) : den X E 118 [.int .i64 n] [] = some (.bool (decide (n < 0)), []) := by
  refine den_w0 (fn := Tryz.f118) (by rfl) (by rfl) (by kernel_rfl) rfl (by rfl) ?_
  simp -implicitDefEqProofs
  (repeat (first | refine Wp.seq ?_ | refine Wp.block ?_ | refine Wp.skip ?_ | refine Wp.exit ?_ | refine Wp.ret ?_ | refine thenK_n ?_ | refine thenK_r ?_ | refine thenK_e ?_ | refine blockK_n ?_ | refine blockK_r ?_ | refine blockK_e ?_ | refine blockK_o (by decide) ?_ | (refine Wp.condT ?_ ?_; focus (simp -implicitDefEqProofs <;> fail)) | (refine Wp.condF ?_ ?_; focus (simp -implicitDefEqProofs <;> fail)) | refine Wp.reg (by simp -implicitDefEqProofs; exact ⟨rfl, rfl⟩) ?_ | refine Wp.regA (by simp -implicitDefEqProofs; exact ⟨rfl, rfl⟩) (by rfl) ?_))
  (apply endK_r; (focus (simp -implicitDefEqProofs [Tryz.f118]; try rfl)); (focus (intro g; simp -implicitDefEqProofs [Tryz.f118])); exact ⟨_, rfl⟩)
theorem negFn_c (n : Int) (g : Nat) (S : St)  : callT (X.at g) (den X E) S 118 [.int .i64 n] = some (.bool (decide (n < 0)), S) := by
  simpa using call_up (cf := X.at g) (fn := Tryz.f118) (args' := [.int .i64 n]) (by kernel_rfl) (by simp) (by simp; try rfl) (negFn n) S
theorem indexFn (l : List Nat) (hl : l.length ≤ 1000000000) : den X E 129 [.sl (l.map (ic ∘ Int.ofNat)) .dead, .fn 118 []] [] = some (.int .i64 (-1), []) := by
  refine den_w0 (fn := Tryz.f129) (by rfl) (by rfl) (by kernel_rfl) rfl (by rfl) ?_
  simp -implicitDefEqProofs
  (repeat (first | refine Wp.seq ?_ | refine Wp.block ?_ | refine Wp.skip ?_ | refine Wp.exit ?_ | refine Wp.ret ?_ | refine thenK_n ?_ | refine thenK_r ?_ | refine thenK_e ?_ | refine blockK_n ?_ | refine blockK_r ?_ | refine blockK_e ?_ | refine blockK_o (by decide) ?_ | (refine Wp.condT ?_ ?_; focus (simp -implicitDefEqProofs <;> fail)) | (refine Wp.condF ?_ ?_; focus (simp -implicitDefEqProofs <;> fail)) | refine Wp.reg (by simp -implicitDefEqProofs; exact ⟨rfl, rfl⟩) ?_ | refine Wp.regA (by simp -implicitDefEqProofs; exact ⟨rfl, rfl⟩) (by rfl) ?_))
  refine Wp.loopF [4, 5, 8, 9, 10, 11, 12, 13, 14, 15, 16, 17, 18] [] (fun n w c tk => ∃ done rest, l = done ++ rest ∧ n = rest.length ∧ w 8 = .int .i64 done.length) (l.length) ?_ ?_ ?_ ?_
  · rfl
  · rfl
  · exact ⟨[], l, by simp, rfl, rfl⟩
  rintro n w c junk tk r σ ⟨done, rest, hd, rfl, h8⟩ hr hσ
  simp -implicitDefEqProofs [h8] at hr hσ
  subst hr hσ
  rcases rest with _ | ⟨a, rest⟩
  · simp at hd
    subst hd
    (repeat (first | refine Wp.seq ?_ | refine Wp.block ?_ | refine Wp.skip ?_ | refine Wp.exit ?_ | refine Wp.ret ?_ | refine thenK_n ?_ | refine thenK_r ?_ | refine thenK_e ?_ | refine blockK_n ?_ | refine blockK_r ?_ | refine blockK_e ?_ | refine blockK_o (by decide) ?_ | (refine Wp.condT ?_ ?_; focus (simp -implicitDefEqProofs <;> fail)) | (refine Wp.condF ?_ ?_; focus (simp -implicitDefEqProofs <;> fail)) | refine Wp.reg (by simp -implicitDefEqProofs; exact ⟨rfl, rfl⟩) ?_ | refine Wp.regA (by simp -implicitDefEqProofs; exact ⟨rfl, rfl⟩) (by rfl) ?_))
    (apply endK_r; (focus (simp -implicitDefEqProofs [Tryz.f129]; try rfl)); (focus (intro g; simp -implicitDefEqProofs [Tryz.f129])); exact ⟨_, rfl⟩)
  · have ha : el l done.length = some a := by simp [hd]
    have hlt : done.length < l.length := by simp [hd]
    have hw : IntKind.i64.wrap ((done.length : Int) + 1) = done.length + 1 := IntWalk.i64_in _ (by omega)
    have h0 : ¬ (a : Int) < 0 := by omega
    have c1 := negFn_c (E := E) (a : Int)
    simp [h0] at c1
    (repeat (first | refine Wp.seq ?_ | refine Wp.block ?_ | refine Wp.skip ?_ | refine Wp.exit ?_ | refine Wp.ret ?_ | refine thenK_n ?_ | refine thenK_r ?_ | refine thenK_e ?_ | refine blockK_n ?_ | refine blockK_r ?_ | refine blockK_e ?_ | refine blockK_o (by decide) ?_ | (refine Wp.condT ?_ ?_; focus (simp -implicitDefEqProofs [ha, hlt, hw, c1] <;> fail)) | (refine Wp.condF ?_ ?_; focus (simp -implicitDefEqProofs [ha, hlt, hw, c1] <;> fail)) | refine Wp.reg (by simp -implicitDefEqProofs [ha, hlt, hw, c1]; exact ⟨rfl, rfl⟩) ?_ | refine Wp.regA (by simp -implicitDefEqProofs [ha, hlt, hw, c1]; exact ⟨rfl, rfl⟩) (by rfl) ?_))
    refine ⟨by simp, ⟨_, by simp -implicitDefEqProofs; rfl⟩, rest.length, by simp, done ++ [a], rest, by simp [hd], rfl, by simp⟩
theorem indexFn_c {l : List Nat} (hl : l.length ≤ 1000000000) (g : Nat) (S : St) (o : Own) : callT (X.at g) (den X E) S 129 [.sl (l.map (ic ∘ Int.ofNat)) o, .fn 118 []] = some (.int .i64 (-1), S) := by
  have hP : (X.at g).P.funcs[129]? = some Tryz.f129 := by kernel_rfl
  have ho : hand (X.at g) (Tryz.f129).params.toList [] S.σ [.sl (l.map (ic ∘ Int.ofNat)) o, .fn 118 []] = some ⟨[.sl (l.map (ic ∘ Int.ofNat)) .dead, .fn 118 []], [], S.σ⟩ := by
    have : List.map (mapLoc fun _ _ => AV.undef) ∘ (ic ∘ Int.ofNat) = ic ∘ Int.ofNat := by funext x; simp
    simp [hand, handOne, gives, Tryz.f129, this]
  simp only [callT, hP, Option.bind_some, ho, List.any_nil, Bool.false_eq_true, if_false, List.map_nil, indexFn l hl, Option.map_some, putBack]
theorem containsFn (l : List Nat) (hl : l.length ≤ 1000000000) : den X E 119 [.sl (l.map (ic ∘ Int.ofNat)) .dead, .fn 118 []] [] = some (.bool false, []) := by
  have c1 := indexFn_c (E := E) hl
  refine den_w0 (fn := Tryz.f119) (by rfl) (by rfl) (by kernel_rfl) rfl (by rfl) ?_
  simp -implicitDefEqProofs
  (repeat (first | refine Wp.seq ?_ | refine Wp.block ?_ | refine Wp.skip ?_ | refine Wp.exit ?_ | refine Wp.ret ?_ | refine thenK_n ?_ | refine thenK_r ?_ | refine thenK_e ?_ | refine blockK_n ?_ | refine blockK_r ?_ | refine blockK_e ?_ | refine blockK_o (by decide) ?_ | (refine Wp.condT ?_ ?_; focus (simp -implicitDefEqProofs [c1] <;> fail)) | (refine Wp.condF ?_ ?_; focus (simp -implicitDefEqProofs [c1] <;> fail)) | refine Wp.reg (by simp -implicitDefEqProofs [c1]; exact ⟨rfl, rfl⟩) ?_ | refine Wp.regA (by simp -implicitDefEqProofs [c1]; exact ⟨rfl, rfl⟩) (by rfl) ?_))
  (apply endK_r; (focus (simp -implicitDefEqProofs [Tryz.f119]; try rfl)); (focus (intro g; simp -implicitDefEqProofs [Tryz.f119])); exact ⟨_, rfl⟩)
theorem containsFn_c {l : List Nat} (hl : l.length ≤ 1000000000) (g : Nat) (S : St) (o : Own) : callT (X.at g) (den X E) S 119 [.sl (l.map (ic ∘ Int.ofNat)) o, .fn 118 []] = some (.bool false, S) := by
  have hP : (X.at g).P.funcs[119]? = some Tryz.f119 := by kernel_rfl
  have ho : hand (X.at g) (Tryz.f119).params.toList [] S.σ [.sl (l.map (ic ∘ Int.ofNat)) o, .fn 118 []] = some ⟨[.sl (l.map (ic ∘ Int.ofNat)) .dead, .fn 118 []], [], S.σ⟩ := by
    have : List.map (mapLoc fun _ _ => AV.undef) ∘ (ic ∘ Int.ofNat) = ic ∘ Int.ofNat := by funext x; simp
    simp [hand, handOne, gives, Tryz.f119, this]
  simp only [callT, hP, Option.bind_some, ho, List.any_nil, Bool.false_eq_true, if_false, List.map_nil, containsFn l hl, Option.map_some, putBack]
theorem vnodes {s : Ty} {v : V} (h : VD s v) (hn : VN 1000000000 v) (hs : s.size ≤ 1000000) : den X E 103 [(V.rv v).enc] [] = some (.tup [.int .i64 s.size, .bool true], []) := by
  induction h with
  | num n =>
    have h0 : (0 : Int) ≤ n := by omega
    simp only [V.rv_num, Ty.size]
    refine den_w0 (fn := Tryz.f103) (by rfl) (by rfl) (by kernel_rfl) rfl (by rfl) ?_
    simp -implicitDefEqProofs
    (repeat (first | refine Wp.seq ?_ | refine Wp.block ?_ | refine Wp.skip ?_ | refine Wp.exit ?_ | refine Wp.ret ?_ | refine thenK_n ?_ | refine thenK_r ?_ | refine thenK_e ?_ | refine blockK_n ?_ | refine blockK_r ?_ | refine blockK_e ?_ | refine blockK_o (by decide) ?_ | (refine Wp.condT ?_ ?_; focus (simp -implicitDefEqProofs [h0] <;> fail)) | (refine Wp.condF ?_ ?_; focus (simp -implicitDefEqProofs [h0] <;> fail)) | refine Wp.reg (by simp -implicitDefEqProofs [h0]; exact ⟨rfl, rfl⟩) ?_ | refine Wp.regA (by simp -implicitDefEqProofs [h0]; exact ⟨rfl, rfl⟩) (by rfl) ?_ | refine Wp.unroll ?_))
    (apply endK_r; (focus (simp -implicitDefEqProofs [Tryz.f103]; try rfl)); (focus (intro g; simp -implicitDefEqProofs [Tryz.f103])); exact ⟨_, rfl⟩)
  | unit =>
    simp only [V.rv_unit, Ty.size]
    refine den_w0 (fn := Tryz.f103) (by rfl) (by rfl) (by kernel_rfl) rfl (by rfl) ?_
    simp -implicitDefEqProofs
    (repeat (first | refine Wp.seq ?_ | refine Wp.block ?_ | refine Wp.skip ?_ | refine Wp.exit ?_ | refine Wp.ret ?_ | refine thenK_n ?_ | refine thenK_r ?_ | refine thenK_e ?_ | refine blockK_n ?_ | refine blockK_r ?_ | refine blockK_e ?_ | refine blockK_o (by decide) ?_ | (refine Wp.condT ?_ ?_; focus (simp -implicitDefEqProofs <;> fail)) | (refine Wp.condF ?_ ?_; focus (simp -implicitDefEqProofs <;> fail)) | refine Wp.reg (by simp -implicitDefEqProofs; exact ⟨rfl, rfl⟩) ?_ | refine Wp.regA (by simp -implicitDefEqProofs; exact ⟨rfl, rfl⟩) (by rfl) ?_ | refine Wp.unroll ?_))
    (apply endK_r; (focus (simp -implicitDefEqProofs [Tryz.f103]; try rfl)); (focus (intro g; simp -implicitDefEqProofs [Tryz.f103])); exact ⟨_, rfl⟩)
  | list l =>
    cases hn with
    | list hl hx =>
    have c1 := containsFn_c (E := E) hl
    simp only [V.rv_list, Ty.size]
    refine den_w0 (fn := Tryz.f103) (by rfl) (by rfl) (by kernel_rfl) rfl (by rfl) ?_
    simp -implicitDefEqProofs
    (repeat (first | refine Wp.seq ?_ | refine Wp.block ?_ | refine Wp.skip ?_ | refine Wp.exit ?_ | refine Wp.ret ?_ | refine thenK_n ?_ | refine thenK_r ?_ | refine thenK_e ?_ | refine blockK_n ?_ | refine blockK_r ?_ | refine blockK_e ?_ | refine blockK_o (by decide) ?_ | (refine Wp.condT ?_ ?_; focus (simp -implicitDefEqProofs [c1] <;> fail)) | (refine Wp.condF ?_ ?_; focus (simp -implicitDefEqProofs [c1] <;> fail)) | refine Wp.reg (by simp -implicitDefEqProofs [c1]; exact ⟨rfl, rfl⟩) ?_ | refine Wp.regA (by simp -implicitDefEqProofs [c1]; exact ⟨rfl, rfl⟩) (by rfl) ?_ | refine Wp.unroll ?_))
    (apply endK_r; (focus (simp -implicitDefEqProofs [Tryz.f103]; try rfl)); (focus (intro g; simp -implicitDefEqProofs [Tryz.f103])); exact ⟨_, rfl⟩)
  | @pair s u a b h1 h2 ih1 ih2 =>
    simp only [Ty.size] at hs
    cases hn with
    | pair hn1 hn2 =>
    have c1 : ∀ (g : Nat) (S : St) (o1 o2 : Own), callT (X.at g) (den X E) S 103 [.agg [.int .i64 (V.rv a).k, .int .i64 (V.rv a).n, .sl (List.map ic (V.rv a).l) o1, .sl (List.map RV.cells (V.rv a).as) o2]] = some (.tup [.int .i64 s.size, .bool true], S) := by
      intros
      simpa using call_up (cf := X.at _) (fn := Tryz.f103) (args' := [_]) (by kernel_rfl) (by simp) (by simp; try rfl) (by simpa using ih1 hn1 (by omega)) _
    have c2 : ∀ (g : Nat) (S : St) (o1 o2 : Own), callT (X.at g) (den X E) S 103 [.agg [.int .i64 (V.rv b).k, .int .i64 (V.rv b).n, .sl (List.map ic (V.rv b).l) o1, .sl (List.map RV.cells (V.rv b).as) o2]] = some (.tup [.int .i64 u.size, .bool true], S) := by
      intros
      simpa using call_up (cf := X.at _) (fn := Tryz.f103) (args' := [_]) (by kernel_rfl) (by simp) (by simp; try rfl) (by simpa using ih2 hn2 (by omega)) _
    have hw1 : IntKind.i64.wrap 1 = 1 := by decide
    have hw2 : IntKind.i64.wrap 2 = 2 := by decide
    have hw3 : IntKind.i64.wrap ((1 : Int) + s.size) = 1 + s.size := IntWalk.i64_in _ (by omega)
    have hw4 : IntKind.i64.wrap ((1 : Int) + s.size + u.size) = 1 + s.size + u.size := IntWalk.i64_in _ (by omega)
    simp only [V.rv_pair, Ty.size]
    refine den_w0 (fn := Tryz.f103) (by rfl) (by rfl) (by kernel_rfl) rfl (by rfl) ?_
    simp -implicitDefEqProofs
    (repeat (first | refine Wp.seq ?_ | refine Wp.block ?_ | refine Wp.skip ?_ | refine Wp.exit ?_ | refine Wp.ret ?_ | refine thenK_n ?_ | refine thenK_r ?_ | refine thenK_e ?_ | refine blockK_n ?_ | refine blockK_r ?_ | refine blockK_e ?_ | refine blockK_o (by decide) ?_ | (refine Wp.condT ?_ ?_; focus (simp -implicitDefEqProofs [c1, c2, hw1, hw2, hw3, hw4] <;> fail)) | (refine Wp.condF ?_ ?_; focus (simp -implicitDefEqProofs [c1, c2, hw1, hw2, hw3, hw4] <;> fail)) | refine Wp.reg (by simp -implicitDefEqProofs [c1, c2, hw1, hw2, hw3, hw4]; exact ⟨rfl, rfl⟩) ?_ | refine Wp.regA (by simp -implicitDefEqProofs [c1, c2, hw1, hw2, hw3, hw4]; exact ⟨rfl, rfl⟩) (by rfl) ?_ | refine Wp.unroll ?_))
    (apply endK_r; (focus (simp -implicitDefEqProofs [Tryz.f103]; try rfl)); (focus (intro g; simp -implicitDefEqProofs [Tryz.f103]; omega)); exact ⟨_, rfl⟩)
theorem vnodes_c {s : Ty} {v : V} (h : VD s v) (hn : VN 1000000000 v) (hs : s.size ≤ 1000000) (g : Nat) (S : St) (o1 o2 : Own) : callT (X.at g) (den X E) S 103 [.agg [.int .i64 (V.rv v).k, .int .i64 (V.rv v).n, .sl (List.map ic (V.rv v).l) o1, .sl (List.map RV.cells (V.rv v).as) o2]] = some (.tup [.int .i64 s.size, .bool true], S) := by
  simpa using call_up (cf := X.at g) (fn := Tryz.f103) (args' := [.agg [.int .i64 (V.rv v).k, .int .i64 (V.rv v).n, .sl (List.map ic (V.rv v).l) o1, .sl (List.map RV.cells (V.rv v).as) o2]]) (by kernel_rfl) (by simp) (by simp; try rfl) (by simpa using vnodes (E := E) h hn hs) S
theorem vcheck {s : Ty} {v : V} (h : VD s v) (hn : VN 1000000000 v) (hs : s.size ≤ 64) : den X E 69 [(V.rv v).enc] [] = some (.int .i64 0, []) := by
  have c1 := vnodes_c (E := E) h hn (by omega)
  have h64 : ¬ (64 : Int) < s.size := by omega
  refine den_w0 (fn := Tryz.f69) (by rfl) (by rfl) (by kernel_rfl) rfl (by rfl) ?_
  simp -implicitDefEqProofs
  (repeat (first | refine Wp.seq ?_ | refine Wp.block ?_ | refine Wp.skip ?_ | refine Wp.exit ?_ | refine Wp.ret ?_ | refine thenK_n ?_ | refine thenK_r ?_ | refine thenK_e ?_ | refine blockK_n ?_ | refine blockK_r ?_ | refine blockK_e ?_ | refine blockK_o (by decide) ?_ | (refine Wp.condT ?_ ?_; focus (simp -implicitDefEqProofs [c1, h64] <;> fail)) | (refine Wp.condF ?_ ?_; focus (simp -implicitDefEqProofs [c1, h64] <;> fail)) | refine Wp.reg (by simp -implicitDefEqProofs [c1, h64]; exact ⟨rfl, rfl⟩) ?_ | refine Wp.regA (by simp -implicitDefEqProofs [c1, h64]; exact ⟨rfl, rfl⟩) (by rfl) ?_))
  (apply endK_r; (focus (simp -implicitDefEqProofs [Tryz.f69]; try rfl)); (focus (intro g; simp -implicitDefEqProofs [Tryz.f69])); exact ⟨_, rfl⟩)
theorem vcheck_c {s : Ty} {v : V} (h : VD s v) (hn : VN 1000000000 v) (hs : s.size ≤ 64) (g : Nat) (S : St) (o1 o2 : Own) : callT (X.at g) (den X E) S 69 [.agg [.int .i64 (V.rv v).k, .int .i64 (V.rv v).n, .sl (List.map ic (V.rv v).l) o1, .sl (List.map RV.cells (V.rv v).as) o2]] = some (.int .i64 0, S) := by
  simpa using call_up (cf := X.at g) (fn := Tryz.f69) (args' := [.agg [.int .i64 (V.rv v).k, .int .i64 (V.rv v).n, .sl (List.map ic (V.rv v).l) o1, .sl (List.map RV.cells (V.rv v).as) o2]]) (by kernel_rfl) (by simp) (by simp; try rfl) (by simpa using vcheck (E := E) h hn hs) S

theorem maxL_snoc (k a : Nat) : ∀ l : List Nat, maxL k (l ++ [a]) = max (maxL k l) a := by
  intro l
  induction l generalizing k with
  | nil => rfl
  | cons x l ih => simp only [List.cons_append, maxL, ih]
theorem bound1 {s : Ty} {v : V} (h : VD s v) (hn : VN 1000000000 v) : den X E 70 [(V.rv v).enc] [] = some ((V.rv (V.bnd v)).enc, []) := by
  induction h with
  | num n =>
    simp only [V.bnd_num, V.rv_num]
    refine den_w0 (fn := Tryz.f70) (by rfl) (by rfl) (by kernel_rfl) rfl (by rfl) ?_
    simp -implicitDefEqProofs
    (repeat (first | refine Wp.seq ?_ | refine Wp.block ?_ | refine Wp.skip ?_ | refine Wp.exit ?_ | refine Wp.ret ?_ | refine thenK_n ?_ | refine thenK_r ?_ | refine thenK_e ?_ | refine blockK_n ?_ | refine blockK_r ?_ | refine blockK_e ?_ | refine blockK_o (by decide) ?_ | (refine Wp.condT ?_ ?_; focus (simp -implicitDefEqProofs <;> fail)) | (refine Wp.condF ?_ ?_; focus (simp -implicitDefEqProofs <;> fail)) | refine Wp.reg (by simp -implicitDefEqProofs; exact ⟨rfl, rfl⟩) ?_ | refine Wp.regA (by simp -implicitDefEqProofs; exact ⟨rfl, rfl⟩) (by rfl) ?_))
    (apply endK_r; (focus (simp -implicitDefEqProofs [Tryz.f70]; try rfl)); (focus (intro g; simp -implicitDefEqProofs [Tryz.f70])); exact ⟨_, rfl⟩)
  | unit =>
    simp only [V.bnd_unit, V.rv_unit]
    refine den_w0 (fn := Tryz.f70) (by rfl) (by rfl) (by kernel_rfl) rfl (by rfl) ?_
    simp -implicitDefEqProofs
    (repeat (first | refine Wp.seq ?_ | refine Wp.block ?_ | refine Wp.skip ?_ | refine Wp.exit ?_ | refine Wp.ret ?_ | refine thenK_n ?_ | refine thenK_r ?_ | refine thenK_e ?_ | refine blockK_n ?_ | refine blockK_r ?_ | refine blockK_e ?_ | refine blockK_o (by decide) ?_ | (refine Wp.condT ?_ ?_; focus (simp -implicitDefEqProofs <;> fail)) | (refine Wp.condF ?_ ?_; focus (simp -implicitDefEqProofs <;> fail)) | refine Wp.reg (by simp -implicitDefEqProofs; exact ⟨rfl, rfl⟩) ?_ | refine Wp.regA (by simp -implicitDefEqProofs; exact ⟨rfl, rfl⟩) (by rfl) ?_))
    (apply endK_r; (focus (simp -implicitDefEqProofs [Tryz.f70]; try rfl)); (focus (intro g; simp -implicitDefEqProofs [Tryz.f70])); exact ⟨_, rfl⟩)
  | list l =>
    cases hn with
    | list hl hx =>
    simp only [V.bnd_list, V.rv_list, V.rv_num]
    refine den_w0 (fn := Tryz.f70) (by rfl) (by rfl) (by kernel_rfl) rfl (by rfl) ?_
    simp -implicitDefEqProofs
    (repeat (first | refine Wp.seq ?_ | refine Wp.block ?_ | refine Wp.skip ?_ | refine Wp.exit ?_ | refine Wp.ret ?_ | refine thenK_n ?_ | refine thenK_r ?_ | refine thenK_e ?_ | refine blockK_n ?_ | refine blockK_r ?_ | refine blockK_e ?_ | refine blockK_o (by decide) ?_ | (refine Wp.condT ?_ ?_; focus (simp -implicitDefEqProofs <;> fail)) | (refine Wp.condF ?_ ?_; focus (simp -implicitDefEqProofs <;> fail)) | refine Wp.reg (by simp -implicitDefEqProofs; exact ⟨rfl, rfl⟩) ?_ | refine Wp.regA (by simp -implicitDefEqProofs; exact ⟨rfl, rfl⟩) (by rfl) ?_))
    refine Wp.loopF [3, 5, 16, 17, 18, 19, 20, 21, 22, 23] [] (fun n w c tk => ∃ done rest, l = done ++ rest ∧ n = rest.length ∧ w 16 = .int .i64 done.length ∧ w 3 = .int .i64 (maxL l.length done : Nat)) (l.length) ?_ ?_ ?_ ?_
    · rfl
    · rfl
    · exact ⟨[], l, by simp, rfl, rfl, rfl⟩
    rintro n w c junk tk r σ ⟨done, rest, hd, rfl, h16, h3⟩ hr hσ
    simp -implicitDefEqProofs [h16, h3] at hr hσ
    subst hr hσ
    rcases rest with _ | ⟨a, rest⟩
    · simp at hd
      rw [← hd] at *
      (repeat (first | refine Wp.seq ?_ | refine Wp.block ?_ | refine Wp.skip ?_ | refine Wp.exit ?_ | refine Wp.ret ?_ | refine thenK_n ?_ | refine thenK_r ?_ | refine thenK_e ?_ | refine blockK_n ?_ | refine blockK_r ?_ | refine blockK_e ?_ | refine blockK_o (by decide) ?_ | (refine Wp.condT ?_ ?_; focus (simp -implicitDefEqProofs <;> fail)) | (refine Wp.condF ?_ ?_; focus (simp -implicitDefEqProofs <;> fail)) | refine Wp.reg (by simp -implicitDefEqProofs; exact ⟨rfl, rfl⟩) ?_ | refine Wp.regA (by simp -implicitDefEqProofs; exact ⟨rfl, rfl⟩) (by rfl) ?_))
      (apply endK_r; (focus (simp -implicitDefEqProofs [Tryz.f70]; try rfl)); (focus (intro g; simp -implicitDefEqProofs [Tryz.f70])); exact ⟨_, rfl⟩)
    · have ha : el l done.length = some a := by simp [hd]
      have hlt : done.length < l.length := by simp [hd]
      have hw : IntKind.i64.wrap ((done.length : Int) + 1) = done.length + 1 := IntWalk.i64_in _ (by omega)
      have hm : (if (maxL l.length done : Int) < a then (a : Int) else maxL l.length done) = (maxL l.length (done ++ [a]) : Nat) := by rw [maxL_snoc]; split <;> omega
      (repeat (first | refine Wp.seq ?_ | refine Wp.block ?_ | refine Wp.skip ?_ | refine Wp.exit ?_ | refine Wp.ret ?_ | refine thenK_n ?_ | refine thenK_r ?_ | refine thenK_e ?_ | refine blockK_n ?_ | refine blockK_r ?_ | refine blockK_e ?_ | refine blockK_o (by decide) ?_ | (refine Wp.condT ?_ ?_; focus (simp -implicitDefEqProofs [ha, hlt, hw, hm] <;> fail)) | (refine Wp.condF ?_ ?_; focus (simp -implicitDefEqProofs [ha, hlt, hw, hm] <;> fail)) | refine Wp.reg (by simp -implicitDefEqProofs [ha, hlt, hw, hm]; exact ⟨rfl, rfl⟩) ?_ | refine Wp.regA (by simp -implicitDefEqProofs [ha, hlt, hw, hm]; exact ⟨rfl, rfl⟩) (by rfl) ?_))
      refine ⟨by simp, ⟨_, by simp -implicitDefEqProofs; rfl⟩, rest.length, by simp, done ++ [a], rest, by simp [hd], rfl, by simp, by simp; rw [maxL_snoc]; split <;> omega⟩
  | @pair s u a b h1 h2 ih1 ih2 =>
    cases hn with
    | pair hn1 hn2 =>
    have c1 : ∀ (g : Nat) (S : St) (o1 o2 : Own), callT (X.at g) (den X E) S 70 [.agg [.int .i64 (V.rv a).k, .int .i64 (V.rv a).n, .sl (List.map ic (V.rv a).l) o1, .sl (List.map RV.cells (V.rv a).as) o2]] = some (.agg [.int .i64 (V.rv (V.bnd a)).k, .int .i64 (V.rv (V.bnd a)).n, .sl (List.map ic (V.rv (V.bnd a)).l) .dead, .sl (List.map RV.cells (V.rv (V.bnd a)).as) .dead], S) := by
      intros
      simpa using call_up (cf := X.at _) (fn := Tryz.f70) (args' := [_]) (by kernel_rfl) (by simp) (by simp; try rfl) (by simpa using ih1 hn1) _
    have c2 : ∀ (g : Nat) (S : St) (o1 o2 : Own), callT (X.at g) (den X E) S 70 [.agg [.int .i64 (V.rv b).k, .int .i64 (V.rv b).n, .sl (List.map ic (V.rv b).l) o1, .sl (List.map RV.cells (V.rv b).as) o2]] = some (.agg [.int .i64 (V.rv (V.bnd b)).k, .int .i64 (V.rv (V.bnd b)).n, .sl (List.map ic (V.rv (V.bnd b)).l) .dead, .sl (List.map RV.cells (V.rv (V.bnd b)).as) .dead], S) := by
      intros
      simpa using call_up (cf := X.at _) (fn := Tryz.f70) (args' := [_]) (by kernel_rfl) (by simp) (by simp; try rfl) (by simpa using ih2 hn2) _
    simp only [V.bnd_pair, V.rv_pair]
    refine den_w0 (fn := Tryz.f70) (by rfl) (by rfl) (by kernel_rfl) rfl (by rfl) ?_
    simp -implicitDefEqProofs
    (repeat (first | refine Wp.seq ?_ | refine Wp.block ?_ | refine Wp.skip ?_ | refine Wp.exit ?_ | refine Wp.ret ?_ | refine thenK_n ?_ | refine thenK_r ?_ | refine thenK_e ?_ | refine blockK_n ?_ | refine blockK_r ?_ | refine blockK_e ?_ | refine blockK_o (by decide) ?_ | (refine Wp.condT ?_ ?_; focus (simp -implicitDefEqProofs [c1, c2] <;> fail)) | (refine Wp.condF ?_ ?_; focus (simp -implicitDefEqProofs [c1, c2] <;> fail)) | refine Wp.reg (by simp -implicitDefEqProofs [c1, c2]; exact ⟨rfl, rfl⟩) ?_ | refine Wp.regA (by simp -implicitDefEqProofs [c1, c2]; exact ⟨rfl, rfl⟩) (by rfl) ?_))
    (apply endK_r; (focus (simp -implicitDefEqProofs [Tryz.f70]; try rfl)); (focus (intro g; simp -implicitDefEqProofs [Tryz.f70])); exact ⟨_, rfl⟩)
theorem bound1_c {s : Ty} {v : V} (h : VD s v) (hn : VN 1000000000 v) (g : Nat) (S : St) (o1 o2 : Own) : callT (X.at g) (den X E) S 70 [.agg [.int .i64 (V.rv v).k, .int .i64 (V.rv v).n, .sl (List.map ic (V.rv v).l) o1, .sl (List.map RV.cells (V.rv v).as) o2]] = some (.agg [.int .i64 (V.rv (V.bnd v)).k, .int .i64 (V.rv (V.bnd v)).n, .sl (List.map ic (V.rv (V.bnd v)).l) .dead, .sl (List.map RV.cells (V.rv (V.bnd v)).as) .dead], S) := by
  simpa using call_up (cf := X.at g) (fn := Tryz.f70) (args' := [.agg [.int .i64 (V.rv v).k, .int .i64 (V.rv v).n, .sl (List.map ic (V.rv v).l) o1, .sl (List.map RV.cells (V.rv v).as) o2]]) (by kernel_rfl) (by simp) (by simp; try rfl) (by simpa using bound1 (E := E) h hn) S
theorem mjValue {s : Ty} {v : V} (h : VD s v) (hn : VN 1000000000 v) (hs : s.size ≤ 64) : den X E 20 [(V.rv v).enc] [] = some (.tup [(V.rv (V.bnd v)).enc, .int .i64 0], []) := by
  have c1 := vcheck_c (E := E) h hn hs
  have c2 := bound1_c (E := E) h hn
  refine den_w0 (fn := Tryz.f20) (by rfl) (by rfl) (by kernel_rfl) rfl (by rfl) ?_
  simp -implicitDefEqProofs
  (repeat (first | refine Wp.seq ?_ | refine Wp.block ?_ | refine Wp.skip ?_ | refine Wp.exit ?_ | refine Wp.ret ?_ | refine thenK_n ?_ | refine thenK_r ?_ | refine thenK_e ?_ | refine blockK_n ?_ | refine blockK_r ?_ | refine blockK_e ?_ | refine blockK_o (by decide) ?_ | (refine Wp.condT ?_ ?_; focus (simp -implicitDefEqProofs [c1, c2] <;> fail)) | (refine Wp.condF ?_ ?_; focus (simp -implicitDefEqProofs [c1, c2] <;> fail)) | refine Wp.reg (by simp -implicitDefEqProofs [c1, c2]; exact ⟨rfl, rfl⟩) ?_ | refine Wp.regA (by simp -implicitDefEqProofs [c1, c2]; exact ⟨rfl, rfl⟩) (by rfl) ?_))
  (apply endK_r; (focus (simp -implicitDefEqProofs [Tryz.f20]; try rfl)); (focus (intro g; simp -implicitDefEqProofs [Tryz.f20])); exact ⟨_, rfl⟩)
theorem mjValue_c {s : Ty} {v : V} (h : VD s v) (hn : VN 1000000000 v) (hs : s.size ≤ 64) (g : Nat) (S : St) (o1 o2 : Own) : callT (X.at g) (den X E) S 20 [.agg [.int .i64 (V.rv v).k, .int .i64 (V.rv v).n, .sl (List.map ic (V.rv v).l) o1, .sl (List.map RV.cells (V.rv v).as) o2]] = some (.tup [.agg [.int .i64 (V.rv (V.bnd v)).k, .int .i64 (V.rv (V.bnd v)).n, .sl (List.map ic (V.rv (V.bnd v)).l) .dead, .sl (List.map RV.cells (V.rv (V.bnd v)).as) .dead], .int .i64 0], S) := by
  simpa using call_up (cf := X.at g) (fn := Tryz.f20) (args' := [.agg [.int .i64 (V.rv v).k, .int .i64 (V.rv v).n, .sl (List.map ic (V.rv v).l) o1, .sl (List.map RV.cells (V.rv v).as) o2]]) (by kernel_rfl) (by simp) (by simp; try rfl) (by simpa using mjValue (E := E) h hn hs) S
theorem over1 {s : Ty} {v : V} (h : VD s v) (hn : VN 1000000000 v) : ∀ a, VD s.star a → den X E 71 [(V.rv a).enc, (V.rv v).enc] [] = some (.bool (V.over a v), []) := by
  induction h with
  | num n =>
    intro a ha
    have ha' : VD .nat a := ha
    cases ha' with
    | num m =>
    have c1 := bound1_c (E := E) (VD.num n) hn
    simp [V.bnd_num] at c1
    simp only [V.rv_num, V.over]
    refine den_w0 (fn := Tryz.f71) (by rfl) (by rfl) (by kernel_rfl) rfl (by rfl) ?_
    simp -implicitDefEqProofs
    (repeat (first | refine Wp.seq ?_ | refine Wp.block ?_ | refine Wp.skip ?_ | refine Wp.exit ?_ | refine Wp.ret ?_ | refine thenK_n ?_ | refine thenK_r ?_ | refine thenK_e ?_ | refine blockK_n ?_ | refine blockK_r ?_ | refine blockK_e ?_ | refine blockK_o (by decide) ?_ | (refine Wp.condT ?_ ?_; focus (simp -implicitDefEqProofs [c1] <;> fail)) | (refine Wp.condF ?_ ?_; focus (simp -implicitDefEqProofs [c1] <;> fail)) | refine Wp.reg (by simp -implicitDefEqProofs [c1]; exact ⟨rfl, rfl⟩) ?_ | refine Wp.regA (by simp -implicitDefEqProofs [c1]; exact ⟨rfl, rfl⟩) (by rfl) ?_))
    (apply endK_r; (focus (simp -implicitDefEqProofs [Tryz.f71]; try rfl)); (focus (intro g; simp -implicitDefEqProofs [Tryz.f71])); exact ⟨_, rfl⟩)
  | unit =>
    intro a ha
    have ha' : VD .unit a := ha
    cases ha'
    simp only [V.rv_unit, V.over]
    refine den_w0 (fn := Tryz.f71) (by rfl) (by rfl) (by kernel_rfl) rfl (by rfl) ?_
    simp -implicitDefEqProofs
    (repeat (first | refine Wp.seq ?_ | refine Wp.block ?_ | refine Wp.skip ?_ | refine Wp.exit ?_ | refine Wp.ret ?_ | refine thenK_n ?_ | refine thenK_r ?_ | refine thenK_e ?_ | refine blockK_n ?_ | refine blockK_r ?_ | refine blockK_e ?_ | refine blockK_o (by decide) ?_ | (refine Wp.condT ?_ ?_; focus (simp -implicitDefEqProofs <;> fail)) | (refine Wp.condF ?_ ?_; focus (simp -implicitDefEqProofs <;> fail)) | refine Wp.reg (by simp -implicitDefEqProofs; exact ⟨rfl, rfl⟩) ?_ | refine Wp.regA (by simp -implicitDefEqProofs; exact ⟨rfl, rfl⟩) (by rfl) ?_))
    (apply endK_r; (focus (simp -implicitDefEqProofs [Tryz.f71]; try rfl)); (focus (intro g; simp -implicitDefEqProofs [Tryz.f71])); exact ⟨_, rfl⟩)
  | list l =>
    intro a ha
    have ha' : VD .nat a := ha
    cases ha' with
    | num m =>
    have c1 := bound1_c (E := E) (VD.list l) hn
    simp [V.bnd_list] at c1
    simp only [V.rv_num, V.rv_list, V.over]
    refine den_w0 (fn := Tryz.f71) (by rfl) (by rfl) (by kernel_rfl) rfl (by rfl) ?_
    simp -implicitDefEqProofs
    (repeat (first | refine Wp.seq ?_ | refine Wp.block ?_ | refine Wp.skip ?_ | refine Wp.exit ?_ | refine Wp.ret ?_ | refine thenK_n ?_ | refine thenK_r ?_ | refine thenK_e ?_ | refine blockK_n ?_ | refine blockK_r ?_ | refine blockK_e ?_ | refine blockK_o (by decide) ?_ | (refine Wp.condT ?_ ?_; focus (simp -implicitDefEqProofs [c1] <;> fail)) | (refine Wp.condF ?_ ?_; focus (simp -implicitDefEqProofs [c1] <;> fail)) | refine Wp.reg (by simp -implicitDefEqProofs [c1]; exact ⟨rfl, rfl⟩) ?_ | refine Wp.regA (by simp -implicitDefEqProofs [c1]; exact ⟨rfl, rfl⟩) (by rfl) ?_))
    (apply endK_r; (focus (simp -implicitDefEqProofs [Tryz.f71]; try rfl)); (focus (intro g; simp -implicitDefEqProofs [Tryz.f71])); exact ⟨_, rfl⟩)
  | @pair s u x y h1 h2 ih1 ih2 =>
    intro a ha
    have ha' : VD (.pair s.star u.star) a := ha
    cases hn with
    | pair hn1 hn2 =>
    cases ha' with
    | @pair _ _ p q hp hq =>
    have c1 : ∀ (g : Nat) (S : St) (o1 o2 o3 o4 : Own), callT (X.at g) (den X E) S 71 [.agg [.int .i64 (V.rv p).k, .int .i64 (V.rv p).n, .sl (List.map ic (V.rv p).l) o1, .sl (List.map RV.cells (V.rv p).as) o2], .agg [.int .i64 (V.rv x).k, .int .i64 (V.rv x).n, .sl (List.map ic (V.rv x).l) o3, .sl (List.map RV.cells (V.rv x).as) o4]] = some (.bool (V.over p x), S) := by
      intros
      simpa using call_up (cf := X.at _) (fn := Tryz.f71) (args' := [_, _]) (by kernel_rfl) (by simp) (by simp; try rfl) (by simpa using ih1 hn1 p hp) _
    have c2 : ∀ (g : Nat) (S : St) (o1 o2 o3 o4 : Own), callT (X.at g) (den X E) S 71 [.agg [.int .i64 (V.rv q).k, .int .i64 (V.rv q).n, .sl (List.map ic (V.rv q).l) o1, .sl (List.map RV.cells (V.rv q).as) o2], .agg [.int .i64 (V.rv y).k, .int .i64 (V.rv y).n, .sl (List.map ic (V.rv y).l) o3, .sl (List.map RV.cells (V.rv y).as) o4]] = some (.bool (V.over q y), S) := by
      intros
      simpa using call_up (cf := X.at _) (fn := Tryz.f71) (args' := [_, _]) (by kernel_rfl) (by simp) (by simp; try rfl) (by simpa using ih2 hn2 q hq) _
    simp only [V.rv_pair, V.over]
    cases ho : V.over p x with
    | false =>
      simp [ho] at c1
      refine den_w0 (fn := Tryz.f71) (by rfl) (by rfl) (by kernel_rfl) rfl (by rfl) ?_
      simp -implicitDefEqProofs
      (repeat (first | refine Wp.seq ?_ | refine Wp.block ?_ | refine Wp.skip ?_ | refine Wp.exit ?_ | refine Wp.ret ?_ | refine thenK_n ?_ | refine thenK_r ?_ | refine thenK_e ?_ | refine blockK_n ?_ | refine blockK_r ?_ | refine blockK_e ?_ | refine blockK_o (by decide) ?_ | (refine Wp.condT ?_ ?_; focus (simp -implicitDefEqProofs [c1, c2] <;> fail)) | (refine Wp.condF ?_ ?_; focus (simp -implicitDefEqProofs [c1, c2] <;> fail)) | refine Wp.reg (by simp -implicitDefEqProofs [c1, c2]; exact ⟨rfl, rfl⟩) ?_ | refine Wp.regA (by simp -implicitDefEqProofs [c1, c2]; exact ⟨rfl, rfl⟩) (by rfl) ?_))
      (apply endK_r; (focus (simp -implicitDefEqProofs [Tryz.f71]; try rfl)); (focus (intro g; simp -implicitDefEqProofs [Tryz.f71])); exact ⟨_, rfl⟩)
    | true =>
      simp [ho] at c1
      refine den_w0 (fn := Tryz.f71) (by rfl) (by rfl) (by kernel_rfl) rfl (by rfl) ?_
      simp -implicitDefEqProofs
      (repeat (first | refine Wp.seq ?_ | refine Wp.block ?_ | refine Wp.skip ?_ | refine Wp.exit ?_ | refine Wp.ret ?_ | refine thenK_n ?_ | refine thenK_r ?_ | refine thenK_e ?_ | refine blockK_n ?_ | refine blockK_r ?_ | refine blockK_e ?_ | refine blockK_o (by decide) ?_ | (refine Wp.condT ?_ ?_; focus (simp -implicitDefEqProofs [c1, c2] <;> fail)) | (refine Wp.condF ?_ ?_; focus (simp -implicitDefEqProofs [c1, c2] <;> fail)) | refine Wp.reg (by simp -implicitDefEqProofs [c1, c2]; exact ⟨rfl, rfl⟩) ?_ | refine Wp.regA (by simp -implicitDefEqProofs [c1, c2]; exact ⟨rfl, rfl⟩) (by rfl) ?_))
      (apply endK_r; (focus (simp -implicitDefEqProofs [Tryz.f71]; try rfl)); (focus (intro g; simp -implicitDefEqProofs [Tryz.f71])); exact ⟨_, rfl⟩)
theorem over1_c {s : Ty} {a v : V} (h : VD s v) (hn : VN 1000000000 v) (ha : VD s.star a) (g : Nat) (S : St) (o1 o2 o3 o4 : Own) : callT (X.at g) (den X E) S 71 [.agg [.int .i64 (V.rv a).k, .int .i64 (V.rv a).n, .sl (List.map ic (V.rv a).l) o1, .sl (List.map RV.cells (V.rv a).as) o2], .agg [.int .i64 (V.rv v).k, .int .i64 (V.rv v).n, .sl (List.map ic (V.rv v).l) o3, .sl (List.map RV.cells (V.rv v).as) o4]] = some (.bool (V.over a v), S) := by
  simpa using call_up (cf := X.at g) (fn := Tryz.f71) (args' := [.agg [.int .i64 (V.rv a).k, .int .i64 (V.rv a).n, .sl (List.map ic (V.rv a).l) o1, .sl (List.map RV.cells (V.rv a).as) o2], .agg [.int .i64 (V.rv v).k, .int .i64 (V.rv v).n, .sl (List.map ic (V.rv v).l) o3, .sl (List.map RV.cells (V.rv v).as) o4]]) (by kernel_rfl) (by simp) (by simp; try rfl) (by simpa using over1 (E := E) h hn a ha) S
theorem majorizes {s : Ty} {a v : V} (h : VD s v) (hn : VN 1000000000 v) (ha : VD s.star a) (hna : VN 1000000000 a) (hs : s.size ≤ 64) : den X E 22 [(V.rv a).enc, (V.rv v).enc] [] = some (.bool (V.over a v), []) := by
  have c1 := vcheck_c (E := E) h hn hs
  have c2 := vcheck_c (E := E) ha hna (by rw [Ty.star_size]; exact hs)
  have c3 := over1_c (E := E) h hn ha
  refine den_w0 (fn := Tryz.f22) (by rfl) (by rfl) (by kernel_rfl) rfl (by rfl) ?_
  simp -implicitDefEqProofs
  (repeat (first | refine Wp.seq ?_ | refine Wp.block ?_ | refine Wp.skip ?_ | refine Wp.exit ?_ | refine Wp.ret ?_ | refine thenK_n ?_ | refine thenK_r ?_ | refine thenK_e ?_ | refine blockK_n ?_ | refine blockK_r ?_ | refine blockK_e ?_ | refine blockK_o (by decide) ?_ | (refine Wp.condT ?_ ?_; focus (simp -implicitDefEqProofs [c1, c2, c3] <;> fail)) | (refine Wp.condF ?_ ?_; focus (simp -implicitDefEqProofs [c1, c2, c3] <;> fail)) | refine Wp.reg (by simp -implicitDefEqProofs [c1, c2, c3]; exact ⟨rfl, rfl⟩) ?_ | refine Wp.regA (by simp -implicitDefEqProofs [c1, c2, c3]; exact ⟨rfl, rfl⟩) (by rfl) ?_))
  (apply endK_r; (focus (simp -implicitDefEqProofs [Tryz.f22]; try rfl)); (focus (intro g; simp -implicitDefEqProofs [Tryz.f22])); exact ⟨_, rfl⟩)
theorem majorizes_c {s : Ty} {a v : V} (h : VD s v) (hn : VN 1000000000 v) (ha : VD s.star a) (hna : VN 1000000000 a) (hs : s.size ≤ 64) (g : Nat) (S : St) (o1 o2 o3 o4 : Own) : callT (X.at g) (den X E) S 22 [.agg [.int .i64 (V.rv a).k, .int .i64 (V.rv a).n, .sl (List.map ic (V.rv a).l) o1, .sl (List.map RV.cells (V.rv a).as) o2], .agg [.int .i64 (V.rv v).k, .int .i64 (V.rv v).n, .sl (List.map ic (V.rv v).l) o3, .sl (List.map RV.cells (V.rv v).as) o4]] = some (.bool (V.over a v), S) := by
  simpa using call_up (cf := X.at g) (fn := Tryz.f22) (args' := [.agg [.int .i64 (V.rv a).k, .int .i64 (V.rv a).n, .sl (List.map ic (V.rv a).l) o1, .sl (List.map RV.cells (V.rv a).as) o2], .agg [.int .i64 (V.rv v).k, .int .i64 (V.rv v).n, .sl (List.map ic (V.rv v).l) o3, .sl (List.map RV.cells (V.rv v).as) o4]]) (by kernel_rfl) (by simp) (by simp; try rfl) (by simpa using majorizes (E := E) h hn ha hna hs) S
end M
end Go.Proofs.YthclcchnodjjpaaGreatDoor
/- make.Term and majorant.Term as calls; law33.awake. -/
set_option linter.unusedVariables false
set_option linter.unusedSimpArgs false
set_option maxRecDepth 10000
set_option maxHeartbeats 4000000
namespace Go.Proofs.YthclcchnodjjpaaGreatDoor
namespace M
attribute [local irreducible] Wp thenK blockK endK
variable {E : Oracle}
open T (V Ty Tm noTy Ans Res evM callV VT VB Env tyR resT resE)
attribute [local simp] noTy
theorem mkTerm_c (zs : List Int) (hz : zs.length ≤ 1000000) (d i : Nat) (t : Ty) (g' : List Ty) (hd : d ≤ 4) (ht : t.size ≤ 64) (hg : g'.length ≤ 400) (hs : ∀ s ∈ g', s.size ≤ 64) (hi : i ≤ zs.length) (g b : Nat) (S : St) (o1 o2 : Own) (hS : sd S.σ b = some [.sl (zs.map ic) .dead, .int .i64 i]) : callT (X.at g) (den X E) S 14 [.loc b 0, .sl (g'.map (RT.cells ∘ Ty.raw)) o1, .agg [.int .i64 t.raw.k, .sl (List.map RT.cells t.raw.as) o2], .int .i64 d] = some (.agg [.int .i64 (termP zs d t g' i).1.raw.k, .int .i64 (termP zs d t g' i).1.raw.i, .int .i64 (termP zs d t g' i).1.raw.ty.k, .sl (List.map RT.cells (termP zs d t g' i).1.raw.ty.as) .dead, .sl (List.map RM.cells (termP zs d t g' i).1.raw.as) .dead], { S with σ := S.σ.set b [.sl (zs.map ic) .dead, .int .i64 (termP zs d t g' i).2] }) := by
  simpa using call_upD (cf := X.at g) (fn := Tryz.f14) (args' := [.sl (g'.map (RT.cells ∘ Ty.raw)) o1, .agg [.int .i64 t.raw.k, .sl (List.map RT.cells t.raw.as) o2], .int .i64 d]) (by kernel_rfl) rfl (by rfl) (by rfl) (by simp) (by simp; try rfl) (by simp) (by simp) (mkTerm zs hz (d * 100 + t.size) d t d g' i (Nat.le_refl _) (by omega) (by omega) (by omega) (by omega) ht (by omega) hs hi) S hS
/-- What majorant.Term returns for a term. -/
def mjRes (t : Tm) : RM × Int := if t.size ≤ 4096 ∧ (ofM t).2 = 0 then (t.star.raw, 0) else (zeroM, 4)
theorem mjRes_or (t : Tm) : (mjRes t = (t.star.raw, 0) ∧ t.size ≤ 4096 ∧ t.star.size ≤ 4096) ∨ mjRes t = (zeroM, 4) := by
  unfold mjRes
  split
  · rename_i h
    exact .inl ⟨rfl, h.1, (ofM_zero t h.2).2⟩
  · exact .inr rfl
theorem mjTermR (t : Tm) {b' : Nat} (hb : 3 ≤ b') (hb2 : b' ≤ 268435456) (hn : t.size ≤ 1000000) (hs : t.small = true) (hi : t.idx b' = true) :
    den X E 13 [t.raw.enc] [] = some (.tup [(mjRes t).1.enc, .int .i64 (mjRes t).2], []) := by
  by_cases h4 : t.size ≤ 4096
  · rw [mjTerm t hb hb2 h4 hs hi]
    unfold runR mjRes
    by_cases h0 : (ofM t).2 = 0
    · rw [if_pos h0, if_pos ⟨h4, h0⟩, (ofM_zero t h0).1]
    · rw [if_neg h0, if_neg (fun h => h0 h.2)]
  · have hr : mjRes t = (zeroM, 4) := by unfold mjRes; rw [if_neg (fun h => h4 h.1)]
    have hnod : t.raw.nodes ≤ 1000000000 := by have := t.raw_nodes hs; omega
    have he : t.raw.err = 4 := by rw [t.raw_err hs, if_neg h4]
    have c1 := termsCheck_c (E := E) (k := t.raw.k) (i := t.raw.i) (m := t.raw.ty.k) (us := t.raw.ty.as) (ts := t.raw.as) (by simpa using hnod)
    simp [he] at c1
    rw [hr]
    refine den_w0 (fn := Tryz.f13) (by rfl) (by rfl) (by kernel_rfl) rfl (by rfl) ?_
    simp -implicitDefEqProofs
    (repeat (first | refine Wp.seq ?_ | refine Wp.block ?_ | refine Wp.skip ?_ | refine Wp.exit ?_ | refine Wp.ret ?_ | refine thenK_n ?_ | refine thenK_r ?_ | refine thenK_e ?_ | refine blockK_n ?_ | refine blockK_r ?_ | refine blockK_e ?_ | refine blockK_o (by decide) ?_ | (refine Wp.condT ?_ ?_; focus (simp -implicitDefEqProofs [c1] <;> fail)) | (refine Wp.condF ?_ ?_; focus (simp -implicitDefEqProofs [c1] <;> fail)) | refine Wp.reg (by simp -implicitDefEqProofs [c1]; exact ⟨rfl, rfl⟩) ?_ | refine Wp.regA (by simp -implicitDefEqProofs [c1]; exact ⟨rfl, rfl⟩) (by rfl) ?_))
    (apply endK_r; (focus (simp -implicitDefEqProofs [Tryz.f13]; try rfl)); (focus (intro g; simp -implicitDefEqProofs [Tryz.f13])); exact ⟨_, rfl⟩)
theorem mjTermR_c {t : Tm} {b' : Nat} (hb : 3 ≤ b') (hb2 : b' ≤ 268435456) (hn : t.size ≤ 1000000) (hs : t.small = true) (hi : t.idx b' = true) (g : Nat) (S : St) (o1 o2 : Own) : callT (X.at g) (den X E) S 13 [.agg [.int .i64 t.raw.k, .int .i64 t.raw.i, .int .i64 t.raw.ty.k, .sl (List.map RT.cells t.raw.ty.as) o1, .sl (List.map RM.cells t.raw.as) o2]] = some (.tup [.agg [.int .i64 (mjRes t).1.k, .int .i64 (mjRes t).1.i, .int .i64 (mjRes t).1.ty.k, .sl (List.map RT.cells (mjRes t).1.ty.as) .dead, .sl (List.map RM.cells (mjRes t).1.as) .dead], .int .i64 (mjRes t).2], S) := by
  simpa using call_up (cf := X.at g) (fn := Tryz.f13) (args' := [.agg [.int .i64 t.raw.k, .int .i64 t.raw.i, .int .i64 t.raw.ty.k, .sl (List.map RT.cells t.raw.ty.as) o1, .sl (List.map RM.cells t.raw.as) o2]]) (by kernel_rfl) (by simp) (by simp; try rfl) (mjTermR t hb hb2 hn hs hi) S
theorem revalE_c {M : Nat} {t : Tm} {s : Ty} {d : Env [] → s.den} (h : T.Sem [] t s d) (hd : s.data = true) (hts : t.small = true) (hsz : t.size ≤ 4096) (hM : M ≤ 65536) (g : Nat) (S : St) (o1 o2 : Own) : callT (X.at g) (den X E) S 38 [.agg [.int .i64 t.raw.k, .int .i64 t.raw.i, .int .i64 t.raw.ty.k, .sl (List.map RT.cells t.raw.ty.as) o1, .sl (List.map RM.cells t.raw.as) o2], .int .i64 M] = some (.tup [.agg [.int .i64 (callRes (tyR [] t) (run0 M t)).1.k, .int .i64 (callRes (tyR [] t) (run0 M t)).1.n, .sl (List.map ic (callRes (tyR [] t) (run0 M t)).1.l) .dead, .sl (List.map RV.cells (callRes (tyR [] t) (run0 M t)).1.as) .dead], .int .i64 (callRes (tyR [] t) (run0 M t)).2.1, .int .i64 (callRes (tyR [] t) (run0 M t)).2.2], S) := by
  simpa using call_up (cf := X.at g) (fn := Tryz.f38) (args' := [.agg [.int .i64 t.raw.k, .int .i64 t.raw.i, .int .i64 t.raw.ty.k, .sl (List.map RT.cells t.raw.ty.as) o1, .sl (List.map RM.cells t.raw.as) o2], .int .i64 M]) (by kernel_rfl) (by simp) (by simp; try rfl) (by simpa [callEnc] using revalE (E := E) h hd hts hsz hM) S

theorem awake_sem : ∃ d, T.Sem [] (Tm.cons .zero .nil).star .nat d := by
  obtain ⟨d', h, _⟩ := (T.Sem.cons (.zero (g := [])) .nil).star
  exact ⟨d', h⟩
theorem awake_run : tyR [] (Tm.cons .zero .nil).star = .inl .nat ∧ ∃ u, run0 500 (Tm.cons .zero .nil).star = (.num 1, u, false) := ⟨by decide +kernel, 29, by kernel_rfl⟩
theorem awake33 : den X E 8 [] [] = some (.bool true, []) := by
  have c0 := mjTermR (E := E) (.cons .zero .nil) (b' := 3) (by decide) (by decide) (by decide) (by decide) (by decide)
  have h1 : mjRes (.cons .zero .nil) = ((Tm.cons .zero .nil).star.raw, 0) := by unfold mjRes; rw [if_pos ⟨by decide, by decide +kernel⟩]
  rw [h1] at c0
  obtain ⟨d, hd⟩ := awake_sem
  obtain ⟨e1, u, e2⟩ := awake_run
  have c2 := revalE_c (E := E) (M := 500) hd (by decide) (by decide +kernel) (by decide +kernel) (by decide)
  rw [e1, e2] at c2
  have hcr : callRes (.inl .nat) (.num 1, u, false) = (.mk 1 1 [] [], (u : Int), 0) := by simp [callRes]
  rw [hcr] at c2
  revert c0 c2
  generalize (Tm.cons .zero .nil).star = m
  intro c0 c2
  have c1 : ∀ (g : Nat) (S : St) (o1 o2 o3 o4 o5 o6 : Own), callT (X.at g) (den X E) S 13 [.agg [.int .i64 8, .int .i64 0, .int .i64 0, .sl [] o1, .sl [[.int .i64 4, .int .i64 0, .int .i64 0, .sl [] o2, .sl [] o3], [.int .i64 7, .int .i64 0, .int .i64 0, .sl [] o4, .sl [] o5]] o6]] = some (.tup [.agg [.int .i64 m.raw.k, .int .i64 m.raw.i, .int .i64 m.raw.ty.k, .sl (List.map RT.cells m.raw.ty.as) .dead, .sl (List.map RM.cells m.raw.as) .dead], .int .i64 0], S) := by
    intros
    simpa using call_up (cf := X.at _) (fn := Tryz.f13) (args' := [_]) (by kernel_rfl) (by simp) (by simp; try rfl) (by simpa [Tm.raw] using c0) _
  simp at c2
  have c3 := mjType_c (E := E) (s := .list) (by decide)
  have c4 := mjValue_c (E := E) (VD.list [1, 7]) (.list (by decide) (by decide)) (by decide)
  have c5 := majorizes_c (E := E) (a := .num 7) (VD.list [1, 7]) (.list (by decide) (by decide)) (VD.num 7) (.num (by decide)) (by decide)
  have hb : V.bnd (.list [1, 7]) = .num 7 := by rw [V.bnd_list]; rfl
  have ho : V.over (.num 7) (.list [1, 7]) = true := by decide
  rw [hb] at c4
  rw [ho] at c5
  simp [Ty.raw, Ty.star] at c3 c4 c5
  refine den_w0 (fn := Tryz.f8) (by rfl) (by rfl) (by kernel_rfl) rfl (by rfl) ?_
  simp -implicitDefEqProofs
  (repeat (first | refine Wp.seq ?_ | refine Wp.block ?_ | refine Wp.skip ?_ | refine Wp.exit ?_ | refine Wp.ret ?_ | refine thenK_n ?_ | refine thenK_r ?_ | refine thenK_e ?_ | refine blockK_n ?_ | refine blockK_r ?_ | refine blockK_e ?_ | refine blockK_o (by decide) ?_ | (refine Wp.condT ?_ ?_; focus (simp -implicitDefEqProofs [c1, c2, c3, c4, c5] <;> fail)) | (refine Wp.condF ?_ ?_; focus (simp -implicitDefEqProofs [c1, c2, c3, c4, c5] <;> fail)) | refine Wp.reg (by simp -implicitDefEqProofs [c1, c2, c3, c4, c5]; exact ⟨rfl, rfl⟩) ?_ | refine Wp.regA (by simp -implicitDefEqProofs [c1, c2, c3, c4, c5]; exact ⟨rfl, rfl⟩) (by rfl) ?_))
  (apply endK_r; (focus (simp -implicitDefEqProofs [Tryz.f8]; try rfl)); (focus (intro g; simp -implicitDefEqProofs [Tryz.f8])); exact ⟨_, rfl⟩)
theorem awake33_c  (g : Nat) (S : St)  : callT (X.at g) (den X E) S 8 [] = some (.bool true, S) := by
  simpa using call_up (cf := X.at g) (fn := Tryz.f8) (args' := []) (by kernel_rfl) (by simp) (by simp; try rfl) (awake33) S
end M
end Go.Proofs.YthclcchnodjjpaaGreatDoor
