/- A part of the proof: TmE, TmF, Cl, MkA. -/
import Derived.Test.YthclcchnodjjpaaGreatDoorG10
import Derived.Test.YthclcchnodjjpaaGreatDoorG08
/- tree.termNodes, CheckTerm, terms.Check. -/
set_option linter.unusedVariables false
set_option linter.unusedSimpArgs false
set_option maxRecDepth 10000
set_option maxHeartbeats 4000000
namespace Go.Proofs.YthclcchnodjjpaaGreatDoor
namespace M
attribute [local irreducible] Wp thenK blockK endK
variable {E : Oracle}
open T (Ty Tm)
theorem termNodes (t : RM) (ht : t.nodes ≤ 1000000000) : den X E 112 [t.enc] [] = some (.tup [.int .i64 (if t.ok then t.count else 0), .bool t.ok], []) := by
  induction t using RM.ind with | h k i t l ih =>
  have ihc : ∀ a ∈ l, ∀ (g : Nat) (S : St) (o1 o2 : Own), callT (X.at g) (den X E) S 112 [.agg [.int .i64 a.k, .int .i64 a.i, .int .i64 a.ty.k, .sl (List.map RT.cells a.ty.as) o1, .sl (List.map RM.cells a.as) o2]] = some (.tup [.int .i64 (if a.ok then a.count else 0), .bool a.ok], S) := by
    intros
    simpa using call_up (cf := X.at _) (fn := Tryz.f112) (args' := [_]) (by kernel_rfl) (by simp) (by simp; try rfl) (ih _ (by assumption) (by have := RM.nodes_mem (k := k) (i := i) (t := t) (l := l) (by assumption); omega)) _
  have hlen := RM.nodes_len k i t l
  have hty := RM.nodes_ty k i t l
  have hcnt := RM.count_mk k i t l
  have hcl := RM.count_le (.mk k i t l)
  have c1 := checkType_c (E := E) (k := t.k) (ts := t.as) (by simp; omega)
  simp at c1
  have c2 := noType1_c (E := E) (k := t.k) (ts := t.as)
  simp at c2
  refine den_w0 (fn := Tryz.f112) (by rfl) (by rfl) (by kernel_rfl) rfl (by rfl) ?_
  simp -implicitDefEqProofs
  cases hkn : RM.known k with
  | false =>
    have har := RM.arity_bad hkn
    have hb := ok2_false (t := t) (l := l) (k := k) (i := i) (fun h => by have := h.1; rw [har] at this; omega)
    (repeat (first | refine Wp.seq ?_ | refine Wp.block ?_ | refine Wp.skip ?_ | refine Wp.exit ?_ | refine Wp.ret ?_ | refine thenK_n ?_ | refine thenK_r ?_ | refine thenK_e ?_ | refine blockK_n ?_ | refine blockK_r ?_ | refine blockK_e ?_ | refine blockK_o (by decide) ?_ | (refine Wp.condT ?_ ?_; focus (simp -implicitDefEqProofs [arity_c, hkn] <;> fail)) | (refine Wp.condF ?_ ?_; focus (simp -implicitDefEqProofs [arity_c, hkn] <;> fail)) | refine Wp.reg (by simp -implicitDefEqProofs [arity_c, hkn]; exact ⟨rfl, rfl⟩) ?_ | refine Wp.regA (by simp -implicitDefEqProofs [arity_c, hkn]; exact ⟨rfl, rfl⟩) (by rfl) ?_))
    (apply endK_r; (focus (simp -implicitDefEqProofs [Tryz.f112, hb]; try rfl)); (focus (intro g; simp -implicitDefEqProofs [Tryz.f112, hb])); exact ⟨_, rfl⟩)
  | true =>
  by_cases h1 : (l.length : Int) = RM.arity k
  rotate_left
  · have hb := ok2_false (t := t) (l := l) (k := k) (i := i) (fun h => h1 h.1)
    (repeat (first | refine Wp.seq ?_ | refine Wp.block ?_ | refine Wp.skip ?_ | refine Wp.exit ?_ | refine Wp.ret ?_ | refine thenK_n ?_ | refine thenK_r ?_ | refine thenK_e ?_ | refine blockK_n ?_ | refine blockK_r ?_ | refine blockK_e ?_ | refine blockK_o (by decide) ?_ | (refine Wp.condT ?_ ?_; focus (simp -implicitDefEqProofs [arity_c, hkn, h1] <;> fail)) | (refine Wp.condF ?_ ?_; focus (simp -implicitDefEqProofs [arity_c, hkn, h1] <;> fail)) | refine Wp.reg (by simp -implicitDefEqProofs [arity_c, hkn, h1]; exact ⟨rfl, rfl⟩) ?_ | refine Wp.regA (by simp -implicitDefEqProofs [arity_c, hkn, h1]; exact ⟨rfl, rfl⟩) (by rfl) ?_))
    (apply endK_r; (focus (simp -implicitDefEqProofs [Tryz.f112, hb]; try rfl)); (focus (intro g; simp -implicitDefEqProofs [Tryz.f112, hb])); exact ⟨_, rfl⟩)
  by_cases h2 : i < 0
  · have hb := ok2_false (t := t) (l := l) (k := k) (i := i) (fun h => by omega)
    (repeat (first | refine Wp.seq ?_ | refine Wp.block ?_ | refine Wp.skip ?_ | refine Wp.exit ?_ | refine Wp.ret ?_ | refine thenK_n ?_ | refine thenK_r ?_ | refine thenK_e ?_ | refine blockK_n ?_ | refine blockK_r ?_ | refine blockK_e ?_ | refine blockK_o (by decide) ?_ | (refine Wp.condT ?_ ?_; focus (simp -implicitDefEqProofs [arity_c, hkn, h1, h2] <;> fail)) | (refine Wp.condF ?_ ?_; focus (simp -implicitDefEqProofs [arity_c, hkn, h1, h2] <;> fail)) | refine Wp.reg (by simp -implicitDefEqProofs [arity_c, hkn, h1, h2]; exact ⟨rfl, rfl⟩) ?_ | refine Wp.regA (by simp -implicitDefEqProofs [arity_c, hkn, h1, h2]; exact ⟨rfl, rfl⟩) (by rfl) ?_))
    (apply endK_r; (focus (simp -implicitDefEqProofs [Tryz.f112, hb]; try rfl)); (focus (intro g; simp -implicitDefEqProofs [Tryz.f112, hb])); exact ⟨_, rfl⟩)
  by_cases h3 : k = 1 ∨ i = 0
  rotate_left
  · have hb := ok2_false (t := t) (l := l) (k := k) (i := i) (fun h => h3 h.2.2)
    simp only [not_or] at h3
    (repeat (first | refine Wp.seq ?_ | refine Wp.block ?_ | refine Wp.skip ?_ | refine Wp.exit ?_ | refine Wp.ret ?_ | refine thenK_n ?_ | refine thenK_r ?_ | refine thenK_e ?_ | refine blockK_n ?_ | refine blockK_r ?_ | refine blockK_e ?_ | refine blockK_o (by decide) ?_ | (refine Wp.condT ?_ ?_; focus (simp -implicitDefEqProofs [arity_c, hkn, h1, h2, h3.1, h3.2] <;> fail)) | (refine Wp.condF ?_ ?_; focus (simp -implicitDefEqProofs [arity_c, hkn, h1, h2, h3.1, h3.2] <;> fail)) | refine Wp.reg (by simp -implicitDefEqProofs [arity_c, hkn, h1, h2, h3.1, h3.2]; exact ⟨rfl, rfl⟩) ?_ | refine Wp.regA (by simp -implicitDefEqProofs [arity_c, hkn, h1, h2, h3.1, h3.2]; exact ⟨rfl, rfl⟩) (by rfl) ?_))
    (apply endK_r; (focus (simp -implicitDefEqProofs [Tryz.f112, hb]; try rfl)); (focus (intro g; simp -implicitDefEqProofs [Tryz.f112, hb])); exact ⟨_, rfl⟩)
  have hok := ok2_true (t := t) (l := l) (k := k) (i := i) ⟨h1, by omega, h3⟩
  have hcase : (i = 0) ∨ (¬ i = 0 ∧ k = 1) := by omega
  rcases hcase with rfl | ⟨hi0, rfl⟩
  · (repeat (first | refine Wp.seq ?_ | refine Wp.skip ?_ | refine Wp.exit ?_ | refine Wp.ret ?_ | refine thenK_n ?_ | refine thenK_r ?_ | refine thenK_e ?_ | refine blockK_n ?_ | refine blockK_r ?_ | refine blockK_e ?_ | refine blockK_o (by decide) ?_ | (refine Wp.condT ?_ ?_; focus (simp -implicitDefEqProofs [arity_c, hkn, h1, typed1_c] <;> fail)) | (refine Wp.condF ?_ ?_; focus (simp -implicitDefEqProofs [arity_c, hkn, h1, typed1_c] <;> fail)) | refine Wp.reg (by simp -implicitDefEqProofs [arity_c, hkn, h1, typed1_c]; exact ⟨rfl, rfl⟩) ?_ | refine Wp.regA (by simp -implicitDefEqProofs [arity_c, hkn, h1, typed1_c]; exact ⟨rfl, rfl⟩) (by rfl) ?_))
    refine Wp.cutF [6, 7, 46, 47, 48, 49, 50, 51, 52, 53, 54, 55, 56, 57] [] (fun w c tk => RM.tyOk k t = true ∧ tk = []) ?_ ?_ ?_ ?_
    · rfl
    · rfl
    · cases hty2 : RM.typed k with
      | true =>
        have hto : RM.tyOk k t = decide (t.err = 0) := by simp only [RM.typed, decide_eq_true_eq] at hty2; simp only [RM.tyOk, if_pos hty2]
        by_cases he : t.err = 0
        · (repeat (first | refine Wp.seq ?_ | refine Wp.block ?_ | refine Wp.skip ?_ | refine Wp.exit ?_ | refine Wp.ret ?_ | refine thenK_n ?_ | refine thenK_r ?_ | refine thenK_e ?_ | refine blockK_n ?_ | refine blockK_r ?_ | refine blockK_e ?_ | refine blockK_o (by decide) ?_ | (refine Wp.condT ?_ ?_; focus (simp -implicitDefEqProofs [c1, he, hty2] <;> fail)) | (refine Wp.condF ?_ ?_; focus (simp -implicitDefEqProofs [c1, he, hty2] <;> fail)) | refine Wp.reg (by simp -implicitDefEqProofs [c1, he, hty2]; exact ⟨rfl, rfl⟩) ?_ | refine Wp.regA (by simp -implicitDefEqProofs [c1, he, hty2]; exact ⟨rfl, rfl⟩) (by rfl) ?_)); refine ⟨by simp, ⟨_, by simp -implicitDefEqProofs; rfl⟩, by simp [hto, he]⟩
        · have hof : (RM.mk k 0 t l).ok = false := by rw [hok, hto]; simp [he]
          (repeat (first | refine Wp.seq ?_ | refine Wp.block ?_ | refine Wp.skip ?_ | refine Wp.exit ?_ | refine Wp.ret ?_ | refine thenK_n ?_ | refine thenK_r ?_ | refine thenK_e ?_ | refine blockK_n ?_ | refine blockK_r ?_ | refine blockK_e ?_ | refine blockK_o (by decide) ?_ | (refine Wp.condT ?_ ?_; focus (simp -implicitDefEqProofs [c1, he, hty2] <;> fail)) | (refine Wp.condF ?_ ?_; focus (simp -implicitDefEqProofs [c1, he, hty2] <;> fail)) | refine Wp.reg (by simp -implicitDefEqProofs [c1, he, hty2]; exact ⟨rfl, rfl⟩) ?_ | refine Wp.regA (by simp -implicitDefEqProofs [c1, he, hty2]; exact ⟨rfl, rfl⟩) (by rfl) ?_))
          (apply endK_r; (focus (simp -implicitDefEqProofs [Tryz.f112, hof]; try rfl)); (focus (intro g; simp -implicitDefEqProofs [Tryz.f112, hof])); exact ⟨_, rfl⟩)
      | false =>
        have hto : RM.tyOk k t = decide (t.k = 0 ∧ t.as.length = 0) := by simp only [RM.typed, decide_eq_false_iff_not] at hty2; simp only [RM.tyOk, if_neg hty2]
        cases hz : decide (t.k = 0 ∧ t.as.length = 0) with
        | false =>
          have hof : (RM.mk k 0 t l).ok = false := by rw [hok, hto, hz]; simp
          simp at hz
          have hz' : (decide (t.k = 0) && decide (t.as = [])) = false := by simpa using hz
          (repeat (first | refine Wp.seq ?_ | refine Wp.block ?_ | refine Wp.skip ?_ | refine Wp.exit ?_ | refine Wp.ret ?_ | refine thenK_n ?_ | refine thenK_r ?_ | refine thenK_e ?_ | refine blockK_n ?_ | refine blockK_r ?_ | refine blockK_e ?_ | refine blockK_o (by decide) ?_ | (refine Wp.condT ?_ ?_; focus (simp -implicitDefEqProofs [c2, hty2, hz'] <;> fail)) | (refine Wp.condF ?_ ?_; focus (simp -implicitDefEqProofs [c2, hty2, hz'] <;> fail)) | refine Wp.reg (by simp -implicitDefEqProofs [c2, hty2, hz']; exact ⟨rfl, rfl⟩) ?_ | refine Wp.regA (by simp -implicitDefEqProofs [c2, hty2, hz']; exact ⟨rfl, rfl⟩) (by rfl) ?_))
          (apply endK_r; (focus (simp -implicitDefEqProofs [Tryz.f112, hof]; try rfl)); (focus (intro g; simp -implicitDefEqProofs [Tryz.f112, hof])); exact ⟨_, rfl⟩)
        | true =>
          rw [hz] at hto
          simp at hz
          have hz' : (decide (t.k = 0) && decide (t.as = [])) = true := by simpa using hz
          (repeat (first | refine Wp.seq ?_ | refine Wp.block ?_ | refine Wp.skip ?_ | refine Wp.exit ?_ | refine Wp.ret ?_ | refine thenK_n ?_ | refine thenK_r ?_ | refine thenK_e ?_ | refine blockK_n ?_ | refine blockK_r ?_ | refine blockK_e ?_ | refine blockK_o (by decide) ?_ | (refine Wp.condT ?_ ?_; focus (simp -implicitDefEqProofs [c2, hty2, hz'] <;> fail)) | (refine Wp.condF ?_ ?_; focus (simp -implicitDefEqProofs [c2, hty2, hz'] <;> fail)) | refine Wp.reg (by simp -implicitDefEqProofs [c2, hty2, hz']; exact ⟨rfl, rfl⟩) ?_ | refine Wp.regA (by simp -implicitDefEqProofs [c2, hty2, hz']; exact ⟨rfl, rfl⟩) (by rfl) ?_)); refine ⟨by simp, ⟨_, by simp -implicitDefEqProofs; rfl⟩, hto, rfl⟩
    rintro w c junk tk r σ ⟨htk, rfl⟩ hr hσ
    rw [htk, Bool.true_and] at hok
    simp -implicitDefEqProofs [] at hr hσ
    subst hr hσ
    (repeat (first | refine Wp.seq ?_ | refine Wp.block ?_ | refine Wp.skip ?_ | refine Wp.exit ?_ | refine Wp.ret ?_ | refine thenK_n ?_ | refine thenK_r ?_ | refine thenK_e ?_ | refine blockK_n ?_ | refine blockK_r ?_ | refine blockK_e ?_ | refine blockK_o (by decide) ?_ | (refine Wp.condT ?_ ?_; focus (simp -implicitDefEqProofs <;> fail)) | (refine Wp.condF ?_ ?_; focus (simp -implicitDefEqProofs <;> fail)) | refine Wp.reg (by simp -implicitDefEqProofs; exact ⟨rfl, rfl⟩) ?_ | refine Wp.regA (by simp -implicitDefEqProofs; exact ⟨rfl, rfl⟩) (by rfl) ?_))
    refine Wp.loopF [2, 3, 8, 10, 11, 12, 61, 62, 63, 64, 65, 66, 67, 68, 69, 70, 71, 72, 73, 74, 75] [] (fun n w c tk => ∃ done rest, l = done ++ rest ∧ n = rest.length ∧ w 61 = .int .i64 done.length ∧ w 8 = .int .i64 (1 + (done.map RM.count).sum : Nat) ∧ done.all RM.ok = true) (l.length) ?_ ?_ ?_ ?_
    · rfl
    · rfl
    · exact ⟨[], l, by simp, rfl, rfl, rfl, rfl⟩
    rintro n w c junk tk r σ ⟨done, rest, hl, rfl, h61, h8, hall⟩ hr hσ
    simp -implicitDefEqProofs [h61, h8] at hr hσ
    subst hr hσ
    cases rest with
    | nil =>
      simp at hl
      subst hl
      rw [hall] at hok
      (repeat (first | refine Wp.seq ?_ | refine Wp.block ?_ | refine Wp.skip ?_ | refine Wp.exit ?_ | refine Wp.ret ?_ | refine thenK_n ?_ | refine thenK_r ?_ | refine thenK_e ?_ | refine blockK_n ?_ | refine blockK_r ?_ | refine blockK_e ?_ | refine blockK_o (by decide) ?_ | (refine Wp.condT ?_ ?_; focus (simp -implicitDefEqProofs <;> fail)) | (refine Wp.condF ?_ ?_; focus (simp -implicitDefEqProofs <;> fail)) | refine Wp.reg (by simp -implicitDefEqProofs; exact ⟨rfl, rfl⟩) ?_ | refine Wp.regA (by simp -implicitDefEqProofs; exact ⟨rfl, rfl⟩) (by rfl) ?_))
      (apply endK_r; (focus (simp -implicitDefEqProofs [Tryz.f112, hok, hcnt]; try rfl)); (focus (intro g; simp -implicitDefEqProofs [Tryz.f112, hok, hcnt])); exact ⟨_, rfl⟩)
    | cons a rest =>
      have ha : el l done.length = some a := by simp [hl]
      have hlt : done.length < l.length := by simp [hl]
      have hi := ihc a (by simp [hl])
      have hw : IntKind.i64.wrap ((done.length : Int) + 1) = done.length + 1 := IntWalk.i64_in _ (by omega)
      cases hoka : a.ok with
      | false =>
        have hof : (RM.mk k 0 t l).ok = false := by rw [hok, hl]; simp [hoka]
        (repeat (first | refine Wp.seq ?_ | refine Wp.block ?_ | refine Wp.skip ?_ | refine Wp.exit ?_ | refine Wp.ret ?_ | refine thenK_n ?_ | refine thenK_r ?_ | refine thenK_e ?_ | refine blockK_n ?_ | refine blockK_r ?_ | refine blockK_e ?_ | refine blockK_o (by decide) ?_ | (refine Wp.condT ?_ ?_; focus (simp -implicitDefEqProofs [ha, hlt, hi, hw, hoka] <;> fail)) | (refine Wp.condF ?_ ?_; focus (simp -implicitDefEqProofs [ha, hlt, hi, hw, hoka] <;> fail)) | refine Wp.reg (by simp -implicitDefEqProofs [ha, hlt, hi, hw, hoka]; exact ⟨rfl, rfl⟩) ?_ | refine Wp.regA (by simp -implicitDefEqProofs [ha, hlt, hi, hw, hoka]; exact ⟨rfl, rfl⟩) (by rfl) ?_))
        (apply endK_r; (focus (simp -implicitDefEqProofs [Tryz.f112, hof]; try rfl)); (focus (intro g; simp -implicitDefEqProofs [Tryz.f112, hof])); exact ⟨_, rfl⟩)
      | true =>
        have hs : (List.map RM.count l).sum = (done.map RM.count).sum + a.count + (rest.map RM.count).sum := by rw [hl]; simp; omega
        have hw8 : IntKind.i64.wrap ((1 : Int) + (done.map RM.count).sum + a.count) = 1 + (done.map RM.count).sum + a.count := IntWalk.i64_in _ (by omega)
        (repeat (first | refine Wp.seq ?_ | refine Wp.block ?_ | refine Wp.skip ?_ | refine Wp.exit ?_ | refine Wp.ret ?_ | refine thenK_n ?_ | refine thenK_r ?_ | refine thenK_e ?_ | refine blockK_n ?_ | refine blockK_r ?_ | refine blockK_e ?_ | refine blockK_o (by decide) ?_ | (refine Wp.condT ?_ ?_; focus (simp -implicitDefEqProofs [ha, hlt, hi, hw, hoka, hw8] <;> fail)) | (refine Wp.condF ?_ ?_; focus (simp -implicitDefEqProofs [ha, hlt, hi, hw, hoka, hw8] <;> fail)) | refine Wp.reg (by simp -implicitDefEqProofs [ha, hlt, hi, hw, hoka, hw8]; exact ⟨rfl, rfl⟩) ?_ | refine Wp.regA (by simp -implicitDefEqProofs [ha, hlt, hi, hw, hoka, hw8]; exact ⟨rfl, rfl⟩) (by rfl) ?_))
        refine ⟨by simp, ⟨_, by simp -implicitDefEqProofs; rfl⟩, rest.length, by simp, done ++ [a], rest, by simp [hl], rfl, by simp, by simp; omega, by simp [hall, hoka]⟩
  · have ht2 : RM.tyOk 1 t = decide (t.k = 0 ∧ t.as.length = 0) := by simp [RM.tyOk]
    have har : RM.arity 1 = 0 := rfl
    have htp : RM.typed 1 = false := rfl
    have hl0 : l = [] := by simp [RM.arity] at h1; exact h1
    subst hl0
    cases hz : decide (t.k = 0 ∧ t.as.length = 0) with
    | false =>
      rw [ht2, hz] at hok
      simp at hz
      have hz' : (decide (t.k = 0) && decide (t.as = [])) = false := by simpa using hz
      (repeat (first | refine Wp.seq ?_ | refine Wp.block ?_ | refine Wp.skip ?_ | refine Wp.exit ?_ | refine Wp.ret ?_ | refine thenK_n ?_ | refine thenK_r ?_ | refine thenK_e ?_ | refine blockK_n ?_ | refine blockK_r ?_ | refine blockK_e ?_ | refine blockK_o (by decide) ?_ | (refine Wp.condT ?_ ?_; focus (simp -implicitDefEqProofs [arity_c, hkn, har, h2, hi0, typed1_c, htp, c2, hz'] <;> fail)) | (refine Wp.condF ?_ ?_; focus (simp -implicitDefEqProofs [arity_c, hkn, har, h2, hi0, typed1_c, htp, c2, hz'] <;> fail)) | refine Wp.reg (by simp -implicitDefEqProofs [arity_c, hkn, har, h2, hi0, typed1_c, htp, c2, hz']; exact ⟨rfl, rfl⟩) ?_ | refine Wp.regA (by simp -implicitDefEqProofs [arity_c, hkn, har, h2, hi0, typed1_c, htp, c2, hz']; exact ⟨rfl, rfl⟩) (by rfl) ?_))
      (apply endK_r; (focus (simp -implicitDefEqProofs [Tryz.f112, hok]; try rfl)); (focus (intro g; simp -implicitDefEqProofs [Tryz.f112, hok])); exact ⟨_, rfl⟩)
    | true =>
      rw [ht2, hz] at hok
      simp at hz
      have hz' : (decide (t.k = 0) && decide (t.as = [])) = true := by simpa using hz
      (repeat (first | refine Wp.seq ?_ | refine Wp.block ?_ | refine Wp.skip ?_ | refine Wp.exit ?_ | refine Wp.ret ?_ | refine thenK_n ?_ | refine thenK_r ?_ | refine thenK_e ?_ | refine blockK_n ?_ | refine blockK_r ?_ | refine blockK_e ?_ | refine blockK_o (by decide) ?_ | (refine Wp.condT ?_ ?_; focus (simp -implicitDefEqProofs [arity_c, hkn, har, h2, hi0, typed1_c, htp, c2, hz'] <;> fail)) | (refine Wp.condF ?_ ?_; focus (simp -implicitDefEqProofs [arity_c, hkn, har, h2, hi0, typed1_c, htp, c2, hz'] <;> fail)) | refine Wp.reg (by simp -implicitDefEqProofs [arity_c, hkn, har, h2, hi0, typed1_c, htp, c2, hz']; exact ⟨rfl, rfl⟩) ?_ | refine Wp.regA (by simp -implicitDefEqProofs [arity_c, hkn, har, h2, hi0, typed1_c, htp, c2, hz']; exact ⟨rfl, rfl⟩) (by rfl) ?_))
      refine Wp.loopF [2, 3, 8, 10, 11, 12, 61, 62, 63, 64, 65, 66, 67, 68, 69, 70, 71, 72, 73, 74, 75] [] (fun n w c tk => w 61 = .int .i64 0 ∧ w 8 = .int .i64 1) (0) ?_ ?_ ?_ ?_
      · rfl
      · rfl
      · exact ⟨rfl, rfl⟩
      rintro n w c junk tk r σ ⟨h61, h8⟩ hr hσ
      simp -implicitDefEqProofs [h61, h8] at hr hσ
      subst hr hσ
      (repeat (first | refine Wp.seq ?_ | refine Wp.block ?_ | refine Wp.skip ?_ | refine Wp.exit ?_ | refine Wp.ret ?_ | refine thenK_n ?_ | refine thenK_r ?_ | refine thenK_e ?_ | refine blockK_n ?_ | refine blockK_r ?_ | refine blockK_e ?_ | refine blockK_o (by decide) ?_ | (refine Wp.condT ?_ ?_; focus (simp -implicitDefEqProofs <;> fail)) | (refine Wp.condF ?_ ?_; focus (simp -implicitDefEqProofs <;> fail)) | refine Wp.reg (by simp -implicitDefEqProofs; exact ⟨rfl, rfl⟩) ?_ | refine Wp.regA (by simp -implicitDefEqProofs; exact ⟨rfl, rfl⟩) (by rfl) ?_))
      (apply endK_r; (focus (simp -implicitDefEqProofs [Tryz.f112, hok, hcnt]; try rfl)); (focus (intro g; simp -implicitDefEqProofs [Tryz.f112, hok, hcnt])); exact ⟨_, rfl⟩)
theorem termNodes_c {k i m : Int} {us : List RT} {ts : List RM} (ht : (RM.mk k i (.mk m us) ts).nodes ≤ 1000000000) (g : Nat) (S : St) (o1 o2 : Own) : callT (X.at g) (den X E) S 112 [.agg [.int .i64 k, .int .i64 i, .int .i64 m, .sl (List.map RT.cells us) o1, .sl (List.map RM.cells ts) o2]] = some (.tup [.int .i64 (if (RM.mk k i (.mk m us) ts).ok then (RM.mk k i (.mk m us) ts).count else 0), .bool (RM.mk k i (.mk m us) ts).ok], S) := by
  simpa using call_up (cf := X.at g) (fn := Tryz.f112) (args' := [.agg [.int .i64 k, .int .i64 i, .int .i64 m, .sl (List.map RT.cells us) o1, .sl (List.map RM.cells ts) o2]]) (by kernel_rfl) (by simp) (by simp; try rfl) (termNodes (.mk k i (.mk m us) ts) ht) S

theorem checkTerm (t : RM) (ht : t.nodes ≤ 1000000000) : den X E 87 [t.enc] [] = some (.tup [.int .i64 (if t.err = 0 then t.count else 0), .int .i64 t.err], []) := by
  have hc := termNodes_c (E := E) (k := t.k) (i := t.i) (m := t.ty.k) (us := t.ty.as) (ts := t.as) (by simpa using ht)
  simp at hc
  cases hok : t.ok with
  | false =>
    have he : t.err = 2 := by simp [RM.err, hok]
    refine den_w0 (fn := Tryz.f87) (by rfl) (by rfl) (by kernel_rfl) rfl (by rfl) ?_
    simp -implicitDefEqProofs
    (repeat (first | refine Wp.seq ?_ | refine Wp.block ?_ | refine Wp.skip ?_ | refine Wp.exit ?_ | refine Wp.ret ?_ | refine thenK_n ?_ | refine thenK_r ?_ | refine thenK_e ?_ | refine blockK_n ?_ | refine blockK_r ?_ | refine blockK_e ?_ | refine blockK_o (by decide) ?_ | (refine Wp.condT ?_ ?_; focus (simp -implicitDefEqProofs [hc, hok] <;> fail)) | (refine Wp.condF ?_ ?_; focus (simp -implicitDefEqProofs [hc, hok] <;> fail)) | refine Wp.reg (by simp -implicitDefEqProofs [hc, hok]; exact ⟨rfl, rfl⟩) ?_ | refine Wp.regA (by simp -implicitDefEqProofs [hc, hok]; exact ⟨rfl, rfl⟩) (by rfl) ?_))
    (apply endK_r; (focus (simp -implicitDefEqProofs [Tryz.f87, he]; try rfl)); (focus (intro g; simp -implicitDefEqProofs [Tryz.f87, he])); exact ⟨_, rfl⟩)
  | true =>
    by_cases hn : t.count ≤ 4096
    · have he : t.err = 0 := by simp [RM.err, hok, hn]
      have hn' : ¬ (4096 : Int) < t.count := by omega
      refine den_w0 (fn := Tryz.f87) (by rfl) (by rfl) (by kernel_rfl) rfl (by rfl) ?_
      simp -implicitDefEqProofs
      (repeat (first | refine Wp.seq ?_ | refine Wp.block ?_ | refine Wp.skip ?_ | refine Wp.exit ?_ | refine Wp.ret ?_ | refine thenK_n ?_ | refine thenK_r ?_ | refine thenK_e ?_ | refine blockK_n ?_ | refine blockK_r ?_ | refine blockK_e ?_ | refine blockK_o (by decide) ?_ | (refine Wp.condT ?_ ?_; focus (simp -implicitDefEqProofs [hc, hok, hn'] <;> fail)) | (refine Wp.condF ?_ ?_; focus (simp -implicitDefEqProofs [hc, hok, hn'] <;> fail)) | refine Wp.reg (by simp -implicitDefEqProofs [hc, hok, hn']; exact ⟨rfl, rfl⟩) ?_ | refine Wp.regA (by simp -implicitDefEqProofs [hc, hok, hn']; exact ⟨rfl, rfl⟩) (by rfl) ?_))
      (apply endK_r; (focus (simp -implicitDefEqProofs [Tryz.f87, he]; try rfl)); (focus (intro g; simp -implicitDefEqProofs [Tryz.f87, he])); exact ⟨_, rfl⟩)
    · have he : t.err = 4 := by simp [RM.err, hok, hn]
      have hn' : (4096 : Int) < t.count := by omega
      refine den_w0 (fn := Tryz.f87) (by rfl) (by rfl) (by kernel_rfl) rfl (by rfl) ?_
      simp -implicitDefEqProofs
      (repeat (first | refine Wp.seq ?_ | refine Wp.block ?_ | refine Wp.skip ?_ | refine Wp.exit ?_ | refine Wp.ret ?_ | refine thenK_n ?_ | refine thenK_r ?_ | refine thenK_e ?_ | refine blockK_n ?_ | refine blockK_r ?_ | refine blockK_e ?_ | refine blockK_o (by decide) ?_ | (refine Wp.condT ?_ ?_; focus (simp -implicitDefEqProofs [hc, hok, hn'] <;> fail)) | (refine Wp.condF ?_ ?_; focus (simp -implicitDefEqProofs [hc, hok, hn'] <;> fail)) | refine Wp.reg (by simp -implicitDefEqProofs [hc, hok, hn']; exact ⟨rfl, rfl⟩) ?_ | refine Wp.regA (by simp -implicitDefEqProofs [hc, hok, hn']; exact ⟨rfl, rfl⟩) (by rfl) ?_))
      (apply endK_r; (focus (simp -implicitDefEqProofs [Tryz.f87, he]; try rfl)); (focus (intro g; simp -implicitDefEqProofs [Tryz.f87, he])); exact ⟨_, rfl⟩)
theorem checkTerm_c {k i m : Int} {us : List RT} {ts : List RM} (ht : (RM.mk k i (.mk m us) ts).nodes ≤ 1000000000) (g : Nat) (S : St) (o1 o2 : Own) : callT (X.at g) (den X E) S 87 [.agg [.int .i64 k, .int .i64 i, .int .i64 m, .sl (List.map RT.cells us) o1, .sl (List.map RM.cells ts) o2]] = some (.tup [.int .i64 (if (RM.mk k i (.mk m us) ts).err = 0 then (RM.mk k i (.mk m us) ts).count else 0), .int .i64 (RM.mk k i (.mk m us) ts).err], S) := by
  simpa using call_up (cf := X.at g) (fn := Tryz.f87) (args' := [.agg [.int .i64 k, .int .i64 i, .int .i64 m, .sl (List.map RT.cells us) o1, .sl (List.map RM.cells ts) o2]]) (by kernel_rfl) (by simp) (by simp; try rfl) (checkTerm (.mk k i (.mk m us) ts) ht) S
theorem termsCheck (t : RM) (ht : t.nodes ≤ 1000000000) : den X E 44 [t.enc] [] = some (.int .i64 t.err, []) := by
  have hc := checkTerm_c (E := E) (k := t.k) (i := t.i) (m := t.ty.k) (us := t.ty.as) (ts := t.as) (by simpa using ht)
  simp at hc
  refine den_w0 (fn := Tryz.f44) (by rfl) (by rfl) (by kernel_rfl) rfl (by rfl) ?_
  simp -implicitDefEqProofs
  (repeat (first | refine Wp.seq ?_ | refine Wp.block ?_ | refine Wp.skip ?_ | refine Wp.exit ?_ | refine Wp.ret ?_ | refine thenK_n ?_ | refine thenK_r ?_ | refine thenK_e ?_ | refine blockK_n ?_ | refine blockK_r ?_ | refine blockK_e ?_ | refine blockK_o (by decide) ?_ | (refine Wp.condT ?_ ?_; focus (simp -implicitDefEqProofs [hc] <;> fail)) | (refine Wp.condF ?_ ?_; focus (simp -implicitDefEqProofs [hc] <;> fail)) | refine Wp.reg (by simp -implicitDefEqProofs [hc]; exact ⟨rfl, rfl⟩) ?_ | refine Wp.regA (by simp -implicitDefEqProofs [hc]; exact ⟨rfl, rfl⟩) (by rfl) ?_))
  (apply endK_r; (focus (simp -implicitDefEqProofs [Tryz.f44]; try rfl)); (focus (intro g; simp -implicitDefEqProofs [Tryz.f44])); exact ⟨_, rfl⟩)
theorem termsCheck_c {k i m : Int} {us : List RT} {ts : List RM} (ht : (RM.mk k i (.mk m us) ts).nodes ≤ 1000000000) (g : Nat) (S : St) (o1 o2 : Own) : callT (X.at g) (den X E) S 44 [.agg [.int .i64 k, .int .i64 i, .int .i64 m, .sl (List.map RT.cells us) o1, .sl (List.map RM.cells ts) o2]] = some (.int .i64 (RM.mk k i (.mk m us) ts).err, S) := by
  simpa using call_up (cf := X.at g) (fn := Tryz.f44) (args' := [.agg [.int .i64 k, .int .i64 i, .int .i64 m, .sl (List.map RT.cells us) o1, .sl (List.map RM.cells ts) o2]]) (by kernel_rfl) (by simp) (by simp; try rfl) (termsCheck (.mk k i (.mk m us) ts) ht) S
end M
end Go.Proofs.YthclcchnodjjpaaGreatDoor
/- scope.Nodes, Far, Lift, Build, Var, Unit, Nat. -/
set_option linter.unusedVariables false
set_option linter.unusedSimpArgs false
set_option maxRecDepth 10000
set_option maxHeartbeats 4000000
namespace Go.Proofs.YthclcchnodjjpaaGreatDoor
namespace M
attribute [local irreducible] Wp thenK blockK endK
variable {E : Oracle}
open T (Ty Tm)
theorem scNodes (t : RM) (ht : t.nodes ≤ 1000000000) : den X E 128 [t.enc] [] = some (.int .i64 t.count, []) := by
  induction t using RM.ind with | h k i t l ih =>
  have ihc : ∀ a ∈ l, ∀ (g : Nat) (S : St) (o1 o2 : Own), callT (X.at g) (den X E) S 128 [.agg [.int .i64 a.k, .int .i64 a.i, .int .i64 a.ty.k, .sl (List.map RT.cells a.ty.as) o1, .sl (List.map RM.cells a.as) o2]] = some (.int .i64 a.count, S) := by
    intros
    simpa using call_up (cf := X.at _) (fn := Tryz.f128) (args' := [_]) (by kernel_rfl) (by simp) (by simp; try rfl) (ih _ (by assumption) (by have := RM.nodes_mem (k := k) (i := i) (t := t) (l := l) (by assumption); omega)) _
  have hlen := RM.nodes_len k i t l
  have hnod := RM.count_mk k i t l
  have hcl := RM.count_le (.mk k i t l)
  refine den_w0 (fn := Tryz.f128) (by rfl) (by rfl) (by kernel_rfl) rfl (by rfl) ?_
  simp -implicitDefEqProofs
  (repeat (first | refine Wp.seq ?_ | refine Wp.block ?_ | refine Wp.skip ?_ | refine Wp.exit ?_ | refine Wp.ret ?_ | refine thenK_n ?_ | refine thenK_r ?_ | refine thenK_e ?_ | refine blockK_n ?_ | refine blockK_r ?_ | refine blockK_e ?_ | refine blockK_o (by decide) ?_ | (refine Wp.condT ?_ ?_; focus (simp -implicitDefEqProofs <;> fail)) | (refine Wp.condF ?_ ?_; focus (simp -implicitDefEqProofs <;> fail)) | refine Wp.reg (by simp -implicitDefEqProofs; exact ⟨rfl, rfl⟩) ?_ | refine Wp.regA (by simp -implicitDefEqProofs; exact ⟨rfl, rfl⟩) (by rfl) ?_))
  refine Wp.loopF [3, 5, 9, 10, 11, 12, 13, 14, 15, 16, 17] [] (fun n w c tk => ∃ done rest, l = done ++ rest ∧ n = rest.length ∧ w 9 = .int .i64 done.length ∧ w 3 = .int .i64 (1 + (List.map RM.count done).sum : Nat)) (l.length) ?_ ?_ ?_ ?_
  · rfl
  · rfl
  · exact ⟨[], l, by simp, rfl, rfl, rfl⟩
  rintro n w c junk tk r σ ⟨done, rest, hl, rfl, hix, hacc⟩ hr hσ
  simp -implicitDefEqProofs [hix, hacc] at hr hσ
  subst hr hσ
  rcases rest with _ | ⟨a, rest⟩
  rotate_left
  · have ha : el l done.length = some a := by simp [hl]
    have hlt : done.length < l.length := by simp [hl]
    have hmem : a ∈ l := by simp [hl]
    have hw : IntKind.i64.wrap ((done.length : Int) + 1) = done.length + 1 := IntWalk.i64_in _ (by omega)
    have hs : (List.map RM.count l).sum = (List.map RM.count done).sum + RM.count a + (List.map RM.count rest).sum := by rw [hl]; simp; omega
    have hws : IntKind.i64.wrap ((1 : Int) + (List.map RM.count done).sum + RM.count a) = 1 + (List.map RM.count done).sum + RM.count a := IntWalk.i64_in _ (by omega)
    (repeat (first | refine Wp.seq ?_ | refine Wp.block ?_ | refine Wp.skip ?_ | refine Wp.exit ?_ | refine Wp.ret ?_ | refine thenK_n ?_ | refine thenK_r ?_ | refine thenK_e ?_ | refine blockK_n ?_ | refine blockK_r ?_ | refine blockK_e ?_ | refine blockK_o (by decide) ?_ | (refine Wp.condT ?_ ?_; focus (simp -implicitDefEqProofs [ha, hlt, hw, hws, ihc a hmem] <;> fail)) | (refine Wp.condF ?_ ?_; focus (simp -implicitDefEqProofs [ha, hlt, hw, hws, ihc a hmem] <;> fail)) | refine Wp.reg (by simp -implicitDefEqProofs [ha, hlt, hw, hws, ihc a hmem]; exact ⟨rfl, rfl⟩) ?_ | refine Wp.regA (by simp -implicitDefEqProofs [ha, hlt, hw, hws, ihc a hmem]; exact ⟨rfl, rfl⟩) (by rfl) ?_))
    refine ⟨by simp, ⟨_, by simp -implicitDefEqProofs; rfl⟩, rest.length, by simp, done ++ [a], rest, by simp [hl], rfl, by simp, by simp; try omega⟩
  simp at hl
  subst hl
  (repeat (first | refine Wp.seq ?_ | refine Wp.block ?_ | refine Wp.skip ?_ | refine Wp.exit ?_ | refine Wp.ret ?_ | refine thenK_n ?_ | refine thenK_r ?_ | refine thenK_e ?_ | refine blockK_n ?_ | refine blockK_r ?_ | refine blockK_e ?_ | refine blockK_o (by decide) ?_ | (refine Wp.condT ?_ ?_; focus (simp -implicitDefEqProofs <;> fail)) | (refine Wp.condF ?_ ?_; focus (simp -implicitDefEqProofs <;> fail)) | refine Wp.reg (by simp -implicitDefEqProofs; exact ⟨rfl, rfl⟩) ?_ | refine Wp.regA (by simp -implicitDefEqProofs; exact ⟨rfl, rfl⟩) (by rfl) ?_))
  (apply endK_r; (focus (simp -implicitDefEqProofs [Tryz.f128, hnod]; try rfl)); (focus (intro g; simp -implicitDefEqProofs [Tryz.f128, hnod])); exact ⟨_, rfl⟩)
theorem scNodes_c {k i m : Int} {us : List RT} {ts : List RM} (ht : (RM.mk k i (.mk m us) ts).nodes ≤ 1000000000) (g : Nat) (S : St) (o1 o2 : Own) : callT (X.at g) (den X E) S 128 [.agg [.int .i64 k, .int .i64 i, .int .i64 m, .sl (List.map RT.cells us) o1, .sl (List.map RM.cells ts) o2]] = some (.int .i64 (RM.mk k i (.mk m us) ts).count, S) := by
  simpa using call_up (cf := X.at g) (fn := Tryz.f128) (args' := [.agg [.int .i64 k, .int .i64 i, .int .i64 m, .sl (List.map RT.cells us) o1, .sl (List.map RM.cells ts) o2]]) (by kernel_rfl) (by simp) (by simp; try rfl) (scNodes (.mk k i (.mk m us) ts) ht) S

theorem far (t : RM) (ht : t.nodes ≤ 1000000000) : den X E 45 [t.enc] [] = some (.bool (!t.near 268435456), []) := by
  induction t using RM.ind with | h k i t l ih =>
  have ihc : ∀ a ∈ l, ∀ (g : Nat) (S : St) (o1 o2 : Own), callT (X.at g) (den X E) S 45 [.agg [.int .i64 a.k, .int .i64 a.i, .int .i64 a.ty.k, .sl (List.map RT.cells a.ty.as) o1, .sl (List.map RM.cells a.as) o2]] = some (.bool (!a.near 268435456), S) := by
    intros
    simpa using call_up (cf := X.at _) (fn := Tryz.f45) (args' := [_]) (by kernel_rfl) (by simp) (by simp; try rfl) (ih _ (by assumption) (by have := RM.nodes_mem (k := k) (i := i) (t := t) (l := l) (by assumption); omega)) _
  have hlen := RM.nodes_len k i t l
  have hmk := RM.near_mk 268435456 k i t l
  refine den_w0 (fn := Tryz.f45) (by rfl) (by rfl) (by kernel_rfl) rfl (by rfl) ?_
  simp -implicitDefEqProofs
  by_cases hi : 268435456 < i
  · have hi' : ¬ i ≤ 268435456 := by omega
    simp [hi'] at hmk
    (repeat (first | refine Wp.seq ?_ | refine Wp.block ?_ | refine Wp.skip ?_ | refine Wp.exit ?_ | refine Wp.ret ?_ | refine thenK_n ?_ | refine thenK_r ?_ | refine thenK_e ?_ | refine blockK_n ?_ | refine blockK_r ?_ | refine blockK_e ?_ | refine blockK_o (by decide) ?_ | (refine Wp.condT ?_ ?_; focus (simp -implicitDefEqProofs [hi] <;> fail)) | (refine Wp.condF ?_ ?_; focus (simp -implicitDefEqProofs [hi] <;> fail)) | refine Wp.reg (by simp -implicitDefEqProofs [hi]; exact ⟨rfl, rfl⟩) ?_ | refine Wp.regA (by simp -implicitDefEqProofs [hi]; exact ⟨rfl, rfl⟩) (by rfl) ?_))
    (apply endK_r; (focus (simp -implicitDefEqProofs [Tryz.f45, hmk]; try rfl)); (focus (intro g; simp -implicitDefEqProofs [Tryz.f45, hmk])); exact ⟨_, rfl⟩)
  have hi' : i ≤ 268435456 := by omega
  simp only [hi', decide_true, Bool.true_and] at hmk
  (repeat (first | refine Wp.seq ?_ | refine Wp.block ?_ | refine Wp.skip ?_ | refine Wp.exit ?_ | refine Wp.ret ?_ | refine thenK_n ?_ | refine thenK_r ?_ | refine thenK_e ?_ | refine blockK_n ?_ | refine blockK_r ?_ | refine blockK_e ?_ | refine blockK_o (by decide) ?_ | (refine Wp.condT ?_ ?_; focus (simp -implicitDefEqProofs [hi] <;> fail)) | (refine Wp.condF ?_ ?_; focus (simp -implicitDefEqProofs [hi] <;> fail)) | refine Wp.reg (by simp -implicitDefEqProofs [hi]; exact ⟨rfl, rfl⟩) ?_ | refine Wp.regA (by simp -implicitDefEqProofs [hi]; exact ⟨rfl, rfl⟩) (by rfl) ?_))
  refine Wp.loopF [2, 4, 11, 12, 13, 14, 15, 16, 17] [] (fun n w c tk => ∃ done rest, l = done ++ rest ∧ n = rest.length ∧ w 11 = .int .i64 done.length ∧ done.all (RM.near 268435456) = true) (l.length) ?_ ?_ ?_ ?_
  · rfl
  · rfl
  · exact ⟨[], l, by simp, rfl, rfl, rfl⟩
  rintro n w c junk tk r σ ⟨done, rest, hl, rfl, hix, hall⟩ hr hσ
  simp -implicitDefEqProofs [hix] at hr hσ
  subst hr hσ
  rcases rest with _ | ⟨a, rest⟩
  rotate_left
  · have ha : el l done.length = some a := by simp [hl]
    have hlt : done.length < l.length := by simp [hl]
    have hmem : a ∈ l := by simp [hl]
    have hw : IntKind.i64.wrap ((done.length : Int) + 1) = done.length + 1 := IntWalk.i64_in _ (by omega)
    cases hP : (RM.near 268435456) a with
    | false =>
      have hall : l.all (RM.near 268435456) = false := by rw [hl]; simp [hP]
      (repeat (first | refine Wp.seq ?_ | refine Wp.block ?_ | refine Wp.skip ?_ | refine Wp.exit ?_ | refine Wp.ret ?_ | refine thenK_n ?_ | refine thenK_r ?_ | refine thenK_e ?_ | refine blockK_n ?_ | refine blockK_r ?_ | refine blockK_e ?_ | refine blockK_o (by decide) ?_ | (refine Wp.condT ?_ ?_; focus (simp -implicitDefEqProofs [ha, hlt, hw, hP, ihc a hmem] <;> fail)) | (refine Wp.condF ?_ ?_; focus (simp -implicitDefEqProofs [ha, hlt, hw, hP, ihc a hmem] <;> fail)) | refine Wp.reg (by simp -implicitDefEqProofs [ha, hlt, hw, hP, ihc a hmem]; exact ⟨rfl, rfl⟩) ?_ | refine Wp.regA (by simp -implicitDefEqProofs [ha, hlt, hw, hP, ihc a hmem]; exact ⟨rfl, rfl⟩) (by rfl) ?_))
      (apply endK_r; (focus (simp -implicitDefEqProofs [Tryz.f45, hmk, hall]; try rfl)); (focus (intro g; simp -implicitDefEqProofs [Tryz.f45, hmk, hall])); exact ⟨_, rfl⟩)
    | true =>
      (repeat (first | refine Wp.seq ?_ | refine Wp.block ?_ | refine Wp.skip ?_ | refine Wp.exit ?_ | refine Wp.ret ?_ | refine thenK_n ?_ | refine thenK_r ?_ | refine thenK_e ?_ | refine blockK_n ?_ | refine blockK_r ?_ | refine blockK_e ?_ | refine blockK_o (by decide) ?_ | (refine Wp.condT ?_ ?_; focus (simp -implicitDefEqProofs [ha, hlt, hw, hP, ihc a hmem] <;> fail)) | (refine Wp.condF ?_ ?_; focus (simp -implicitDefEqProofs [ha, hlt, hw, hP, ihc a hmem] <;> fail)) | refine Wp.reg (by simp -implicitDefEqProofs [ha, hlt, hw, hP, ihc a hmem]; exact ⟨rfl, rfl⟩) ?_ | refine Wp.regA (by simp -implicitDefEqProofs [ha, hlt, hw, hP, ihc a hmem]; exact ⟨rfl, rfl⟩) (by rfl) ?_))
      refine ⟨by simp, ⟨_, by simp -implicitDefEqProofs; rfl⟩, rest.length, by simp, done ++ [a], rest, by simp [hl], rfl, by simp, by simp [hall, hP]⟩
  simp at hl
  subst hl
  (repeat (first | refine Wp.seq ?_ | refine Wp.block ?_ | refine Wp.skip ?_ | refine Wp.exit ?_ | refine Wp.ret ?_ | refine thenK_n ?_ | refine thenK_r ?_ | refine thenK_e ?_ | refine blockK_n ?_ | refine blockK_r ?_ | refine blockK_e ?_ | refine blockK_o (by decide) ?_ | (refine Wp.condT ?_ ?_; focus (simp -implicitDefEqProofs <;> fail)) | (refine Wp.condF ?_ ?_; focus (simp -implicitDefEqProofs <;> fail)) | refine Wp.reg (by simp -implicitDefEqProofs; exact ⟨rfl, rfl⟩) ?_ | refine Wp.regA (by simp -implicitDefEqProofs; exact ⟨rfl, rfl⟩) (by rfl) ?_))
  (apply endK_r; (focus (simp -implicitDefEqProofs [Tryz.f45, hmk, hall]; try rfl)); (focus (intro g; simp -implicitDefEqProofs [Tryz.f45, hmk, hall])); exact ⟨_, rfl⟩)
theorem far_c {k i m : Int} {us : List RT} {ts : List RM} (ht : (RM.mk k i (.mk m us) ts).nodes ≤ 1000000000) (g : Nat) (S : St) (o1 o2 : Own) : callT (X.at g) (den X E) S 45 [.agg [.int .i64 k, .int .i64 i, .int .i64 m, .sl (List.map RT.cells us) o1, .sl (List.map RM.cells ts) o2]] = some (.bool (!(RM.mk k i (.mk m us) ts).near 268435456), S) := by
  simpa using call_up (cf := X.at g) (fn := Tryz.f45) (args' := [.agg [.int .i64 k, .int .i64 i, .int .i64 m, .sl (List.map RT.cells us) o1, .sl (List.map RM.cells ts) o2]]) (by kernel_rfl) (by simp) (by simp; try rfl) (far (.mk k i (.mk m us) ts) ht) S

theorem scLift (q : Int) (hn : 0 ≤ q ∧ q ≤ 1000000000) (t : RM) : ∀ z : Int, t.nodes ≤ 1000000000 → t.idx 1000000000 = true → 0 ≤ z → z + t.nodes ≤ 10000000000 →
    den X E 91 [t.enc, .int .i64 z, .int .i64 q] [] = some ((t.lift q z).enc, []) := by
  induction t using RM.ind with | h k i t l ih =>
  intro z ht hi hc0 hc
  have hlen := RM.nodes_len k i t l
  have hmk := RM.lift_mk q k i z t l
  by_cases hn0 : q = 0
  · subst hn0
    rw [RM.lift_zero]
    refine den_w0 (fn := Tryz.f91) (by rfl) (by rfl) (by kernel_rfl) rfl (by rfl) ?_
    simp -implicitDefEqProofs
    (repeat (first | refine Wp.seq ?_ | refine Wp.block ?_ | refine Wp.skip ?_ | refine Wp.exit ?_ | refine Wp.ret ?_ | refine thenK_n ?_ | refine thenK_r ?_ | refine thenK_e ?_ | refine blockK_n ?_ | refine blockK_r ?_ | refine blockK_e ?_ | refine blockK_o (by decide) ?_ | (refine Wp.condT ?_ ?_; focus (simp -implicitDefEqProofs <;> fail)) | (refine Wp.condF ?_ ?_; focus (simp -implicitDefEqProofs <;> fail)) | refine Wp.reg (by simp -implicitDefEqProofs; exact ⟨rfl, rfl⟩) ?_ | refine Wp.regA (by simp -implicitDefEqProofs; exact ⟨rfl, rfl⟩) (by rfl) ?_))
    (apply endK_r; (focus (simp -implicitDefEqProofs [Tryz.f91]; try rfl)); (focus (intro g; simp -implicitDefEqProofs [Tryz.f91])); exact ⟨_, rfl⟩)
  rw [RM.idx_mk] at hi
  simp only [Bool.and_eq_true, decide_eq_true_eq, List.all_eq_true] at hi
  by_cases hk1 : k = 1
  · subst hk1
    simp only [if_true] at hmk
    by_cases hci : z ≤ i
    · have hw : IntKind.i64.wrap (i + q) = i + q := IntWalk.i64_in _ (by omega)
      rw [if_pos hci] at hmk
      refine den_w0 (fn := Tryz.f91) (by rfl) (by rfl) (by kernel_rfl) rfl (by rfl) ?_
      simp -implicitDefEqProofs
      (repeat (first | refine Wp.seq ?_ | refine Wp.block ?_ | refine Wp.skip ?_ | refine Wp.exit ?_ | refine Wp.ret ?_ | refine thenK_n ?_ | refine thenK_r ?_ | refine thenK_e ?_ | refine blockK_n ?_ | refine blockK_r ?_ | refine blockK_e ?_ | refine blockK_o (by decide) ?_ | (refine Wp.condT ?_ ?_; focus (simp -implicitDefEqProofs [hn0, hci, hw] <;> fail)) | (refine Wp.condF ?_ ?_; focus (simp -implicitDefEqProofs [hn0, hci, hw] <;> fail)) | refine Wp.reg (by simp -implicitDefEqProofs [hn0, hci, hw]; exact ⟨rfl, rfl⟩) ?_ | refine Wp.regA (by simp -implicitDefEqProofs [hn0, hci, hw]; exact ⟨rfl, rfl⟩) (by rfl) ?_))
      (apply endK_r; (focus (simp -implicitDefEqProofs [Tryz.f91, hmk]; try rfl)); (focus (intro g; simp -implicitDefEqProofs [Tryz.f91, hmk])); exact ⟨_, rfl⟩)
    · rw [if_neg hci] at hmk
      refine den_w0 (fn := Tryz.f91) (by rfl) (by rfl) (by kernel_rfl) rfl (by rfl) ?_
      simp -implicitDefEqProofs
      (repeat (first | refine Wp.seq ?_ | refine Wp.block ?_ | refine Wp.skip ?_ | refine Wp.exit ?_ | refine Wp.ret ?_ | refine thenK_n ?_ | refine thenK_r ?_ | refine thenK_e ?_ | refine blockK_n ?_ | refine blockK_r ?_ | refine blockK_e ?_ | refine blockK_o (by decide) ?_ | (refine Wp.condT ?_ ?_; focus (simp -implicitDefEqProofs [hn0, hci] <;> fail)) | (refine Wp.condF ?_ ?_; focus (simp -implicitDefEqProofs [hn0, hci] <;> fail)) | refine Wp.reg (by simp -implicitDefEqProofs [hn0, hci]; exact ⟨rfl, rfl⟩) ?_ | refine Wp.regA (by simp -implicitDefEqProofs [hn0, hci]; exact ⟨rfl, rfl⟩) (by rfl) ?_))
      (apply endK_r; (focus (simp -implicitDefEqProofs [Tryz.f91, hmk]; try rfl)); (focus (intro g; simp -implicitDefEqProofs [Tryz.f91, hmk])); exact ⟨_, rfl⟩)
  simp only [if_neg hk1] at hmk
  have ihc : ∀ a ∈ l, ∀ (g : Nat) (S : St) (o1 o2 : Own), callT (X.at g) (den X E) S 91 [.agg [.int .i64 a.k, .int .i64 a.i, .int .i64 a.ty.k, .sl (List.map RT.cells a.ty.as) o1, .sl (List.map RM.cells a.as) o2], .int .i64 (if k = 2 then z + 1 else z), .int .i64 q] = some (.agg [.int .i64 (RM.lift q a (if k = 2 then z + 1 else z)).k, .int .i64 (RM.lift q a (if k = 2 then z + 1 else z)).i, .int .i64 (RM.lift q a (if k = 2 then z + 1 else z)).ty.k, .sl (List.map RT.cells (RM.lift q a (if k = 2 then z + 1 else z)).ty.as) .dead, .sl (List.map RM.cells (RM.lift q a (if k = 2 then z + 1 else z)).as) .dead], S) := by
    intros
    simpa using call_up (cf := X.at _) (fn := Tryz.f91) (args' := [_, _, _]) (by kernel_rfl) (by simp) (by simp; try rfl) (ih _ (by assumption) _ (by have := RM.nodes_mem (k := k) (i := i) (t := t) (l := l) (by assumption); omega) (hi.2 _ (by assumption)) (by split <;> omega) (by have := RM.nodes_mem (k := k) (i := i) (t := t) (l := l) (by assumption); split <;> omega)) _
  have hw1 : IntKind.i64.wrap (z + 1) = z + 1 := IntWalk.i64_in _ (by omega)
  refine den_w0 (fn := Tryz.f91) (by rfl) (by rfl) (by kernel_rfl) rfl (by rfl) ?_
  simp -implicitDefEqProofs
  by_cases hk2 : k = 2
  · simp only [hk2, if_true] at hmk ihc
    (repeat (first | refine Wp.seq ?_ | refine Wp.block ?_ | refine Wp.skip ?_ | refine Wp.exit ?_ | refine Wp.ret ?_ | refine thenK_n ?_ | refine thenK_r ?_ | refine thenK_e ?_ | refine blockK_n ?_ | refine blockK_r ?_ | refine blockK_e ?_ | refine blockK_o (by decide) ?_ | (refine Wp.condT ?_ ?_; focus (simp -implicitDefEqProofs [hn0, hk1, hk2, hw1] <;> fail)) | (refine Wp.condF ?_ ?_; focus (simp -implicitDefEqProofs [hn0, hk1, hk2, hw1] <;> fail)) | refine Wp.reg (by simp -implicitDefEqProofs [hn0, hk1, hk2, hw1]; exact ⟨rfl, rfl⟩) ?_ | refine Wp.regA (by simp -implicitDefEqProofs [hn0, hk1, hk2, hw1]; exact ⟨rfl, rfl⟩) (by rfl) ?_))
    refine Wp.loopF [9, 36, 37, 38, 39, 40, 41, 42, 43, 44, 45, 46, 47, 48, 49] [2] (fun n w c tk => ∃ done rest o, l = done ++ rest ∧ n = rest.length ∧ w 36 = .int .i64 done.length ∧ c 2 = [.int .i64 k, .int .i64 i, .int .i64 t.k, .sl (t.as.map RT.cells) .dead, .sl (List.map (RM.cells ∘ fun a => RM.lift q a (z + 1)) done) o] ∧ Can tk (List.map (RM.cells ∘ fun a => RM.lift q a (z + 1)) done) o) (l.length) ?_ ?_ ?_ ?_
    · rfl
    · rfl
    · exact ⟨[], l, .full, by simp, rfl, rfl, by simp [hk2], trivial⟩
    rintro n w c junk tk r σ ⟨done, rest, o, hl, rfl, hix, hacc, hcan⟩ hr hσ
    simp -implicitDefEqProofs [hix, hacc] at hr hσ
    subst hr hσ
    rcases rest with _ | ⟨a, rest⟩
    rotate_left
    · have ha : el l done.length = some a := by simp [hl]
      have hlt : done.length < l.length := by simp [hl]
      have hmem : a ∈ l := by simp [hl]
      have hw : IntKind.i64.wrap ((done.length : Int) + 1) = done.length + 1 := IntWalk.i64_in _ (by omega)
      obtain ⟨o', tk', happ, hcan'⟩ := can_app hcan 5 (by decide) (by simp) (by simp; omega)
      (repeat (first | refine Wp.seq ?_ | refine Wp.block ?_ | refine Wp.skip ?_ | refine Wp.exit ?_ | refine Wp.ret ?_ | refine thenK_n ?_ | refine thenK_r ?_ | refine thenK_e ?_ | refine blockK_n ?_ | refine blockK_r ?_ | refine blockK_e ?_ | refine blockK_o (by decide) ?_ | (refine Wp.condT ?_ ?_; focus (simp -implicitDefEqProofs [ha, hlt, hw, happ, ihc a hmem] <;> fail)) | (refine Wp.condF ?_ ?_; focus (simp -implicitDefEqProofs [ha, hlt, hw, happ, ihc a hmem] <;> fail)) | refine Wp.reg (by simp -implicitDefEqProofs [ha, hlt, hw, happ, ihc a hmem]; exact ⟨rfl, rfl⟩) ?_ | refine Wp.regA (by simp -implicitDefEqProofs [ha, hlt, hw, happ, ihc a hmem]; exact ⟨rfl, rfl⟩) (by rfl) ?_))
      refine ⟨by simp, ⟨_, by simp -implicitDefEqProofs; rfl⟩, rest.length, by simp, done ++ [a], rest, o', by simp [hl], rfl, by simp, by simp, by simpa using hcan' _⟩
    simp at hl
    subst hl
    (repeat (first | refine Wp.seq ?_ | refine Wp.block ?_ | refine Wp.skip ?_ | refine Wp.exit ?_ | refine Wp.ret ?_ | refine thenK_n ?_ | refine thenK_r ?_ | refine thenK_e ?_ | refine blockK_n ?_ | refine blockK_r ?_ | refine blockK_e ?_ | refine blockK_o (by decide) ?_ | (refine Wp.condT ?_ ?_; focus (simp -implicitDefEqProofs <;> fail)) | (refine Wp.condF ?_ ?_; focus (simp -implicitDefEqProofs <;> fail)) | refine Wp.reg (by simp -implicitDefEqProofs; exact ⟨rfl, rfl⟩) ?_ | refine Wp.regA (by simp -implicitDefEqProofs; exact ⟨rfl, rfl⟩) (by rfl) ?_))
    (apply endK_r; (focus (simp -implicitDefEqProofs [Tryz.f91, hmk, hk2]; try rfl)); (focus (intro g; simp -implicitDefEqProofs [Tryz.f91, hmk, hk2])); exact ⟨_, rfl⟩)
  · simp only [hk2, if_false] at hmk ihc
    (repeat (first | refine Wp.seq ?_ | refine Wp.block ?_ | refine Wp.skip ?_ | refine Wp.exit ?_ | refine Wp.ret ?_ | refine thenK_n ?_ | refine thenK_r ?_ | refine thenK_e ?_ | refine blockK_n ?_ | refine blockK_r ?_ | refine blockK_e ?_ | refine blockK_o (by decide) ?_ | (refine Wp.condT ?_ ?_; focus (simp -implicitDefEqProofs [hn0, hk1, hk2] <;> fail)) | (refine Wp.condF ?_ ?_; focus (simp -implicitDefEqProofs [hn0, hk1, hk2] <;> fail)) | refine Wp.reg (by simp -implicitDefEqProofs [hn0, hk1, hk2]; exact ⟨rfl, rfl⟩) ?_ | refine Wp.regA (by simp -implicitDefEqProofs [hn0, hk1, hk2]; exact ⟨rfl, rfl⟩) (by rfl) ?_))
    refine Wp.loopF [9, 36, 37, 38, 39, 40, 41, 42, 43, 44, 45, 46, 47, 48, 49] [2] (fun n w c tk => ∃ done rest o, l = done ++ rest ∧ n = rest.length ∧ w 36 = .int .i64 done.length ∧ c 2 = [.int .i64 k, .int .i64 i, .int .i64 t.k, .sl (t.as.map RT.cells) .dead, .sl (List.map (RM.cells ∘ fun a => RM.lift q a z) done) o] ∧ Can tk (List.map (RM.cells ∘ fun a => RM.lift q a z) done) o) (l.length) ?_ ?_ ?_ ?_
    · rfl
    · rfl
    · exact ⟨[], l, .full, by simp, rfl, rfl, rfl, trivial⟩
    rintro n w c junk tk r σ ⟨done, rest, o, hl, rfl, hix, hacc, hcan⟩ hr hσ
    simp -implicitDefEqProofs [hix, hacc] at hr hσ
    subst hr hσ
    rcases rest with _ | ⟨a, rest⟩
    rotate_left
    · have ha : el l done.length = some a := by simp [hl]
      have hlt : done.length < l.length := by simp [hl]
      have hmem : a ∈ l := by simp [hl]
      have hw : IntKind.i64.wrap ((done.length : Int) + 1) = done.length + 1 := IntWalk.i64_in _ (by omega)
      obtain ⟨o', tk', happ, hcan'⟩ := can_app hcan 5 (by decide) (by simp) (by simp; omega)
      (repeat (first | refine Wp.seq ?_ | refine Wp.block ?_ | refine Wp.skip ?_ | refine Wp.exit ?_ | refine Wp.ret ?_ | refine thenK_n ?_ | refine thenK_r ?_ | refine thenK_e ?_ | refine blockK_n ?_ | refine blockK_r ?_ | refine blockK_e ?_ | refine blockK_o (by decide) ?_ | (refine Wp.condT ?_ ?_; focus (simp -implicitDefEqProofs [ha, hlt, hw, happ, ihc a hmem] <;> fail)) | (refine Wp.condF ?_ ?_; focus (simp -implicitDefEqProofs [ha, hlt, hw, happ, ihc a hmem] <;> fail)) | refine Wp.reg (by simp -implicitDefEqProofs [ha, hlt, hw, happ, ihc a hmem]; exact ⟨rfl, rfl⟩) ?_ | refine Wp.regA (by simp -implicitDefEqProofs [ha, hlt, hw, happ, ihc a hmem]; exact ⟨rfl, rfl⟩) (by rfl) ?_))
      refine ⟨by simp, ⟨_, by simp -implicitDefEqProofs; rfl⟩, rest.length, by simp, done ++ [a], rest, o', by simp [hl], rfl, by simp, by simp, by simpa using hcan' _⟩
    simp at hl
    subst hl
    (repeat (first | refine Wp.seq ?_ | refine Wp.block ?_ | refine Wp.skip ?_ | refine Wp.exit ?_ | refine Wp.ret ?_ | refine thenK_n ?_ | refine thenK_r ?_ | refine thenK_e ?_ | refine blockK_n ?_ | refine blockK_r ?_ | refine blockK_e ?_ | refine blockK_o (by decide) ?_ | (refine Wp.condT ?_ ?_; focus (simp -implicitDefEqProofs <;> fail)) | (refine Wp.condF ?_ ?_; focus (simp -implicitDefEqProofs <;> fail)) | refine Wp.reg (by simp -implicitDefEqProofs; exact ⟨rfl, rfl⟩) ?_ | refine Wp.regA (by simp -implicitDefEqProofs; exact ⟨rfl, rfl⟩) (by rfl) ?_))
    (apply endK_r; (focus (simp -implicitDefEqProofs [Tryz.f91, hmk]; try rfl)); (focus (intro g; simp -implicitDefEqProofs [Tryz.f91, hmk])); exact ⟨_, rfl⟩)
theorem scLift_c {n c k i m : Int} {us : List RT} {ts : List RM} (hn : 0 ≤ n ∧ n ≤ 1000000000) (ht : (RM.mk k i (.mk m us) ts).nodes ≤ 1000000000) (hi : (RM.mk k i (.mk m us) ts).idx 1000000000 = true) (hc : 0 ≤ c ∧ c ≤ 1000000000) (g : Nat) (S : St) (o1 o2 : Own) : callT (X.at g) (den X E) S 91 [.agg [.int .i64 k, .int .i64 i, .int .i64 m, .sl (List.map RT.cells us) o1, .sl (List.map RM.cells ts) o2], .int .i64 c, .int .i64 n] = some (.agg [.int .i64 ((RM.mk k i (.mk m us) ts).lift n c).k, .int .i64 ((RM.mk k i (.mk m us) ts).lift n c).i, .int .i64 ((RM.mk k i (.mk m us) ts).lift n c).ty.k, .sl (List.map RT.cells ((RM.mk k i (.mk m us) ts).lift n c).ty.as) .dead, .sl (List.map RM.cells ((RM.mk k i (.mk m us) ts).lift n c).as) .dead], S) := by
  simpa using call_up (cf := X.at g) (fn := Tryz.f91) (args' := [.agg [.int .i64 k, .int .i64 i, .int .i64 m, .sl (List.map RT.cells us) o1, .sl (List.map RM.cells ts) o2], .int .i64 c, .int .i64 n]) (by kernel_rfl) (by simp) (by simp; try rfl) (scLift n hn (.mk k i (.mk m us) ts) c ht hi hc.1 (by omega)) S

theorem scBuild (k : Int) (s : RT) (l : List RM) (ht : (RM.mk k 0 s l).nodes ≤ 1000000000) : den X E 113 [.int .i64 k, s.enc, .sl (l.map RM.cells) .dead] [] =
    some (if (RM.mk k 0 s l).count ≤ 4096 then .tup [(RM.mk k 0 s l).enc, .int .i64 0] else .tup [(RM.mk 0 0 (.mk 0 []) []).enc, .int .i64 4], []) := by
  have c1 := scNodes_c (E := E) (k := k) (i := 0) (m := s.k) (us := s.as) (ts := l) (by simpa using ht)
  simp at c1
  by_cases h : (RM.mk k 0 s l).count ≤ 4096
  · have h' : ¬ (4096 : Int) < (RM.mk k 0 s l).count := by omega
    rw [if_pos h]
    refine den_w0 (fn := Tryz.f113) (by rfl) (by rfl) (by kernel_rfl) rfl (by rfl) ?_
    simp -implicitDefEqProofs
    (repeat (first | refine Wp.seq ?_ | refine Wp.block ?_ | refine Wp.skip ?_ | refine Wp.exit ?_ | refine Wp.ret ?_ | refine thenK_n ?_ | refine thenK_r ?_ | refine thenK_e ?_ | refine blockK_n ?_ | refine blockK_r ?_ | refine blockK_e ?_ | refine blockK_o (by decide) ?_ | (refine Wp.condT ?_ ?_; focus (simp -implicitDefEqProofs [c1, h'] <;> fail)) | (refine Wp.condF ?_ ?_; focus (simp -implicitDefEqProofs [c1, h'] <;> fail)) | refine Wp.reg (by simp -implicitDefEqProofs [c1, h']; exact ⟨rfl, rfl⟩) ?_ | refine Wp.regA (by simp -implicitDefEqProofs [c1, h']; exact ⟨rfl, rfl⟩) (by rfl) ?_))
    (apply endK_r; (focus (simp -implicitDefEqProofs [Tryz.f113]; try rfl)); (focus (intro g; simp -implicitDefEqProofs [Tryz.f113])); exact ⟨_, rfl⟩)
  · have h' : (4096 : Int) < (RM.mk k 0 s l).count := by omega
    rw [if_neg h]
    refine den_w0 (fn := Tryz.f113) (by rfl) (by rfl) (by kernel_rfl) rfl (by rfl) ?_
    simp -implicitDefEqProofs
    (repeat (first | refine Wp.seq ?_ | refine Wp.block ?_ | refine Wp.skip ?_ | refine Wp.exit ?_ | refine Wp.ret ?_ | refine thenK_n ?_ | refine thenK_r ?_ | refine thenK_e ?_ | refine blockK_n ?_ | refine blockK_r ?_ | refine blockK_e ?_ | refine blockK_o (by decide) ?_ | (refine Wp.condT ?_ ?_; focus (simp -implicitDefEqProofs [c1, h'] <;> fail)) | (refine Wp.condF ?_ ?_; focus (simp -implicitDefEqProofs [c1, h'] <;> fail)) | refine Wp.reg (by simp -implicitDefEqProofs [c1, h']; exact ⟨rfl, rfl⟩) ?_ | refine Wp.regA (by simp -implicitDefEqProofs [c1, h']; exact ⟨rfl, rfl⟩) (by rfl) ?_))
    (apply endK_r; (focus (simp -implicitDefEqProofs [Tryz.f113]; try rfl)); (focus (intro g; simp -implicitDefEqProofs [Tryz.f113])); exact ⟨_, rfl⟩)
theorem scVar (i : Int) : den X E 94 [.int .i64 i] [] = some ((RM.mk 1 i (.mk 0 []) []).enc, []) := by
  refine den_w0 (fn := Tryz.f94) (by rfl) (by rfl) (by kernel_rfl) rfl (by rfl) ?_
  simp -implicitDefEqProofs
  (repeat (first | refine Wp.seq ?_ | refine Wp.block ?_ | refine Wp.skip ?_ | refine Wp.exit ?_ | refine Wp.ret ?_ | refine thenK_n ?_ | refine thenK_r ?_ | refine thenK_e ?_ | refine blockK_n ?_ | refine blockK_r ?_ | refine blockK_e ?_ | refine blockK_o (by decide) ?_ | (refine Wp.condT ?_ ?_; focus (simp -implicitDefEqProofs <;> fail)) | (refine Wp.condF ?_ ?_; focus (simp -implicitDefEqProofs <;> fail)) | refine Wp.reg (by simp -implicitDefEqProofs; exact ⟨rfl, rfl⟩) ?_ | refine Wp.regA (by simp -implicitDefEqProofs; exact ⟨rfl, rfl⟩) (by rfl) ?_))
  (apply endK_r; (focus (simp -implicitDefEqProofs [Tryz.f94]; try rfl)); (focus (intro g; simp -implicitDefEqProofs [Tryz.f94])); exact ⟨_, rfl⟩)
theorem scVar_c {i : Int} (g : Nat) (S : St)  : callT (X.at g) (den X E) S 94 [.int .i64 i] = some (.agg [.int .i64 1, .int .i64 i, .int .i64 0, .sl (List.map RT.cells []) .dead, .sl (List.map RM.cells []) .dead], S) := by
  simpa using call_up (cf := X.at g) (fn := Tryz.f94) (args' := [.int .i64 i]) (by kernel_rfl) (by simp) (by simp; try rfl) (scVar i) S
theorem scUnit : den X E 110 [] [] = some ((RM.mk 13 0 (.mk 0 []) []).enc, []) := by
  refine den_w0 (fn := Tryz.f110) (by rfl) (by rfl) (by kernel_rfl) rfl (by rfl) ?_
  simp -implicitDefEqProofs
  (repeat (first | refine Wp.seq ?_ | refine Wp.block ?_ | refine Wp.skip ?_ | refine Wp.exit ?_ | refine Wp.ret ?_ | refine thenK_n ?_ | refine thenK_r ?_ | refine thenK_e ?_ | refine blockK_n ?_ | refine blockK_r ?_ | refine blockK_e ?_ | refine blockK_o (by decide) ?_ | (refine Wp.condT ?_ ?_; focus (simp -implicitDefEqProofs <;> fail)) | (refine Wp.condF ?_ ?_; focus (simp -implicitDefEqProofs <;> fail)) | refine Wp.reg (by simp -implicitDefEqProofs; exact ⟨rfl, rfl⟩) ?_ | refine Wp.regA (by simp -implicitDefEqProofs; exact ⟨rfl, rfl⟩) (by rfl) ?_))
  (apply endK_r; (focus (simp -implicitDefEqProofs [Tryz.f110]; try rfl)); (focus (intro g; simp -implicitDefEqProofs [Tryz.f110])); exact ⟨_, rfl⟩)
theorem scUnit_c  (g : Nat) (S : St)  : callT (X.at g) (den X E) S 110 [] = some (.agg [.int .i64 13, .int .i64 0, .int .i64 0, .sl (List.map RT.cells []) .dead, .sl (List.map RM.cells []) .dead], S) := by
  simpa using call_up (cf := X.at g) (fn := Tryz.f110) (args' := []) (by kernel_rfl) (by simp) (by simp; try rfl) (scUnit) S
theorem scNat : den X E 88 [] [] = some ((RT.mk 1 []).enc, []) := by
  refine den_w0 (fn := Tryz.f88) (by rfl) (by rfl) (by kernel_rfl) rfl (by rfl) ?_
  simp -implicitDefEqProofs
  (repeat (first | refine Wp.seq ?_ | refine Wp.block ?_ | refine Wp.skip ?_ | refine Wp.exit ?_ | refine Wp.ret ?_ | refine thenK_n ?_ | refine thenK_r ?_ | refine thenK_e ?_ | refine blockK_n ?_ | refine blockK_r ?_ | refine blockK_e ?_ | refine blockK_o (by decide) ?_ | (refine Wp.condT ?_ ?_; focus (simp -implicitDefEqProofs <;> fail)) | (refine Wp.condF ?_ ?_; focus (simp -implicitDefEqProofs <;> fail)) | refine Wp.reg (by simp -implicitDefEqProofs; exact ⟨rfl, rfl⟩) ?_ | refine Wp.regA (by simp -implicitDefEqProofs; exact ⟨rfl, rfl⟩) (by rfl) ?_))
  (apply endK_r; (focus (simp -implicitDefEqProofs [Tryz.f88]; try rfl)); (focus (intro g; simp -implicitDefEqProofs [Tryz.f88])); exact ⟨_, rfl⟩)
theorem scNat_c  (g : Nat) (S : St)  : callT (X.at g) (den X E) S 88 [] = some (.agg [.int .i64 1, .sl (List.map RT.cells []) .dead], S) := by
  simpa using call_up (cf := X.at g) (fn := Tryz.f88) (args' := []) (by kernel_rfl) (by simp) (by simp; try rfl) (scNat) S
end M
end Go.Proofs.YthclcchnodjjpaaGreatDoor
/- Closed terms of the program and of the references: by running. -/
set_option linter.unusedVariables false
set_option linter.unusedSimpArgs false
set_option maxRecDepth 10000
set_option maxHeartbeats 4000000
namespace Go.Proofs.YthclcchnodjjpaaGreatDoor
namespace M
attribute [local irreducible] Wp thenK blockK endK
variable {E : Oracle}
open T (Ty Tm)
theorem v_plus : den X E 123 [] [] = some (T.plus.raw.enc, []) := den_of (n := 12) (by kernel_rfl)
theorem v_sub : den X E 124 [] [] = some (T.sub.raw.enc, []) := den_of (n := 12) (by kernel_rfl)
theorem v_greater : den X E 109 [] [] = some (T.greater.raw.enc, []) := den_of (n := 12) (by kernel_rfl)
theorem v_pred : den X E 135 [] [] = some (T.pred.raw.enc, []) := den_of (n := 12) (by kernel_rfl)
theorem r_plus : den X E 55 [] [] = some (T.plus.raw.enc, []) := den_of (n := 30) (by kernel_rfl)
theorem r_sub : den X E 56 [] [] = some (T.sub.raw.enc, []) := den_of (n := 30) (by kernel_rfl)
end M
end Go.Proofs.YthclcchnodjjpaaGreatDoor
/- ref01.Same; make.vars, longer, Num, App, Context; ref05.numeral, Number. -/
set_option linter.unusedVariables false
set_option linter.unusedSimpArgs false
set_option maxRecDepth 10000
set_option maxHeartbeats 4000000
namespace Go.Proofs.YthclcchnodjjpaaGreatDoor
namespace M
attribute [local irreducible] Wp thenK blockK endK
variable {E : Oracle}
open T (Ty Tm noTy)
mutual
/-- Are two raw types the same? -/
def RT.beq : RT → RT → Bool
  | .mk k l, .mk m r => decide (k = m) && RT.beqs l r
def RT.beqs : List RT → List RT → Bool
  | [], [] => true
  | a :: l, b :: r => a.beq b && RT.beqs l r
  | _, _ => false
end
theorem RT.beq_iff (t : RT) : ∀ u : RT, t.beq u = true ↔ t = u := by
  induction t using RT.ind with | h k l ih =>
  intro u
  obtain ⟨m, r⟩ := u
  have : ∀ r, RT.beqs l r = true ↔ l = r := by
    clear r
    induction l with
    | nil => intro r; cases r <;> simp [RT.beqs]
    | cons a l ihl =>
      intro r
      cases r with
      | nil => simp [RT.beqs]
      | cons b r =>
        simp only [RT.beqs, Bool.and_eq_true, List.cons.injEq]
        rw [ih a (by simp), ihl (fun x hx => ih x (by simp [hx]))]
  simp only [RT.beq, Bool.and_eq_true, decide_eq_true_eq, this, RT.mk.injEq]
theorem RT.beqs_len : ∀ {l r : List RT}, l.length ≠ r.length → RT.beqs l r = false
  | [], [], h => absurd rfl h
  | [], _ :: _, _ => rfl
  | _ :: _, [], _ => rfl
  | a :: l, b :: r, h => by simp only [RT.beqs, RT.beqs_len (l := l) (r := r) (by simpa using h), Bool.and_false]
theorem RT.beqs_split {a b : RT} : ∀ {l r l' r' : List RT}, l.length = r.length → RT.beqs (l ++ a :: l') (r ++ b :: r') = (RT.beqs l r && (a.beq b && RT.beqs l' r'))
  | [], [], l', r', _ => by simp [RT.beqs]
  | x :: l, y :: r, l', r', h => by simp only [List.cons_append, RT.beqs, RT.beqs_split (l := l) (r := r) (by simpa using h), Bool.and_assoc]
theorem same1 (t : RT) : ∀ u : RT, t.nodes ≤ 1000000000 → den X E 17 [t.enc, u.enc] [] = some (.bool (t.beq u), []) := by
  induction t using RT.ind with | h k l ih =>
  intro u ht
  obtain ⟨m, r⟩ := u
  have hlen := RT.nodes_len k l
  by_cases hk : k = m
  rotate_left
  · have hb : (RT.mk k l).beq (.mk m r) = false := by simp [RT.beq, hk]
    refine den_w0 (fn := Tryz.f17) (by rfl) (by rfl) (by kernel_rfl) rfl (by rfl) ?_
    simp -implicitDefEqProofs
    (repeat (first | refine Wp.seq ?_ | refine Wp.block ?_ | refine Wp.skip ?_ | refine Wp.exit ?_ | refine Wp.ret ?_ | refine thenK_n ?_ | refine thenK_r ?_ | refine thenK_e ?_ | refine blockK_n ?_ | refine blockK_r ?_ | refine blockK_e ?_ | refine blockK_o (by decide) ?_ | (refine Wp.condT ?_ ?_; focus (simp -implicitDefEqProofs [hk] <;> fail)) | (refine Wp.condF ?_ ?_; focus (simp -implicitDefEqProofs [hk] <;> fail)) | refine Wp.reg (by simp -implicitDefEqProofs [hk]; exact ⟨rfl, rfl⟩) ?_ | refine Wp.regA (by simp -implicitDefEqProofs [hk]; exact ⟨rfl, rfl⟩) (by rfl) ?_))
    (apply endK_r; (focus (simp -implicitDefEqProofs [Tryz.f17, hb]; try rfl)); (focus (intro g; simp -implicitDefEqProofs [Tryz.f17, hb])); exact ⟨_, rfl⟩)
  subst hk
  by_cases hl : l.length = r.length
  rotate_left
  · have hb : (RT.mk k l).beq (.mk k r) = false := by simp [RT.beq, RT.beqs_len hl]
    have hl' : ¬ (l.length : Int) = r.length := by omega
    refine den_w0 (fn := Tryz.f17) (by rfl) (by rfl) (by kernel_rfl) rfl (by rfl) ?_
    simp -implicitDefEqProofs
    (repeat (first | refine Wp.seq ?_ | refine Wp.block ?_ | refine Wp.skip ?_ | refine Wp.exit ?_ | refine Wp.ret ?_ | refine thenK_n ?_ | refine thenK_r ?_ | refine thenK_e ?_ | refine blockK_n ?_ | refine blockK_r ?_ | refine blockK_e ?_ | refine blockK_o (by decide) ?_ | (refine Wp.condT ?_ ?_; focus (simp -implicitDefEqProofs [hl'] <;> fail)) | (refine Wp.condF ?_ ?_; focus (simp -implicitDefEqProofs [hl'] <;> fail)) | refine Wp.reg (by simp -implicitDefEqProofs [hl']; exact ⟨rfl, rfl⟩) ?_ | refine Wp.regA (by simp -implicitDefEqProofs [hl']; exact ⟨rfl, rfl⟩) (by rfl) ?_))
    (apply endK_r; (focus (simp -implicitDefEqProofs [Tryz.f17, hb]; try rfl)); (focus (intro g; simp -implicitDefEqProofs [Tryz.f17, hb])); exact ⟨_, rfl⟩)
  have hb : (RT.mk k l).beq (.mk k r) = RT.beqs l r := by simp [RT.beq]
  have ihc : ∀ a ∈ l, ∀ b : RT, ∀ (g : Nat) (S : St) (o1 o2 : Own), callT (X.at g) (den X E) S 17 [.agg [.int .i64 a.k, .sl (List.map RT.cells a.as) o1], .agg [.int .i64 b.k, .sl (List.map RT.cells b.as) o2]] = some (.bool (a.beq b), S) := by
    intro a ha b
    have h : ∀ (g : Nat) (S : St) (o1 o2 : Own), callT (X.at g) (den X E) S 17 [.agg [.int .i64 a.k, .sl (List.map RT.cells a.as) o1], .agg [.int .i64 b.k, .sl (List.map RT.cells b.as) o2]] = some (.bool (a.beq b), S) := by
      intros
      simpa using call_up (cf := X.at _) (fn := Tryz.f17) (args' := [_, _]) (by kernel_rfl) (by simp) (by simp; try rfl) (ih a ha b (by have := RT.nodes_mem (k := k) ha; omega)) _
    exact h
  have hl' : (l.length : Int) = r.length := by omega
  refine den_w0 (fn := Tryz.f17) (by rfl) (by rfl) (by kernel_rfl) rfl (by rfl) ?_
  simp -implicitDefEqProofs
  (repeat (first | refine Wp.seq ?_ | refine Wp.block ?_ | refine Wp.skip ?_ | refine Wp.exit ?_ | refine Wp.ret ?_ | refine thenK_n ?_ | refine thenK_r ?_ | refine thenK_e ?_ | refine blockK_n ?_ | refine blockK_r ?_ | refine blockK_e ?_ | refine blockK_o (by decide) ?_ | (refine Wp.condT ?_ ?_; focus (simp -implicitDefEqProofs [hl'] <;> fail)) | (refine Wp.condF ?_ ?_; focus (simp -implicitDefEqProofs [hl'] <;> fail)) | refine Wp.reg (by simp -implicitDefEqProofs [hl']; exact ⟨rfl, rfl⟩) ?_ | refine Wp.regA (by simp -implicitDefEqProofs [hl']; exact ⟨rfl, rfl⟩) (by rfl) ?_))
  refine Wp.loopF [4, 5, 23, 24, 25, 26, 27, 28, 29, 30, 31, 32, 33, 34, 35, 36, 37, 38] [] (fun n w c tk => ∃ d1 r1 d2 r2, l = d1 ++ r1 ∧ r = d2 ++ r2 ∧ d1.length = d2.length ∧ n = r1.length ∧ w 23 = .int .i64 d1.length ∧ RT.beqs d1 d2 = true) (l.length) ?_ ?_ ?_ ?_
  · rfl
  · rfl
  · exact ⟨[], l, [], r, by simp, by simp, rfl, rfl, rfl, rfl⟩
  rintro n w c junk tk r' σ ⟨d1, r1, d2, r2, h1, h2, hd, rfl, h23, hbs⟩ hr hσ
  simp -implicitDefEqProofs [h23] at hr hσ
  subst hr hσ
  cases r1 with
  | nil =>
    have hr2 : r2 = [] := by
      have := congrArg List.length h1
      have := congrArg List.length h2
      simp at *
      exact List.eq_nil_of_length_eq_zero (by omega)
    subst hr2
    simp at h1 h2
    subst h1 h2
    rw [hbs] at hb
    (repeat (first | refine Wp.seq ?_ | refine Wp.block ?_ | refine Wp.skip ?_ | refine Wp.exit ?_ | refine Wp.ret ?_ | refine thenK_n ?_ | refine thenK_r ?_ | refine thenK_e ?_ | refine blockK_n ?_ | refine blockK_r ?_ | refine blockK_e ?_ | refine blockK_o (by decide) ?_ | (refine Wp.condT ?_ ?_; focus (simp -implicitDefEqProofs [hd] <;> fail)) | (refine Wp.condF ?_ ?_; focus (simp -implicitDefEqProofs [hd] <;> fail)) | refine Wp.reg (by simp -implicitDefEqProofs [hd]; exact ⟨rfl, rfl⟩) ?_ | refine Wp.regA (by simp -implicitDefEqProofs [hd]; exact ⟨rfl, rfl⟩) (by rfl) ?_))
    (apply endK_r; (focus (simp -implicitDefEqProofs [Tryz.f17, hb]; try rfl)); (focus (intro g; simp -implicitDefEqProofs [Tryz.f17, hb])); exact ⟨_, rfl⟩)
  | cons a r1 =>
    cases r2 with
    | nil =>
      have := congrArg List.length h1
      have := congrArg List.length h2
      simp at *
      omega
    | cons b r2 =>
      have ha : el l d1.length = some a := by simp [h1]
      have hb2 : el r d1.length = some b := by rw [hd]; simp [h2]
      have hlt : d1.length < r.length := by rw [hd]; simp [h2]
      have hi := ihc a (by simp [h1]) b
      have hw : IntKind.i64.wrap ((d1.length : Int) + 1) = d1.length + 1 := IntWalk.i64_in _ (by omega)
      cases hab : a.beq b with
      | false =>
        have hf : (RT.mk k l).beq (.mk k r) = false := by rw [hb, h1, h2, RT.beqs_split hd]; simp [hab]
        (repeat (first | refine Wp.seq ?_ | refine Wp.block ?_ | refine Wp.skip ?_ | refine Wp.exit ?_ | refine Wp.ret ?_ | refine thenK_n ?_ | refine thenK_r ?_ | refine thenK_e ?_ | refine blockK_n ?_ | refine blockK_r ?_ | refine blockK_e ?_ | refine blockK_o (by decide) ?_ | (refine Wp.condT ?_ ?_; focus (simp -implicitDefEqProofs [ha, hb2, hlt, hi, hw, hab] <;> fail)) | (refine Wp.condF ?_ ?_; focus (simp -implicitDefEqProofs [ha, hb2, hlt, hi, hw, hab] <;> fail)) | refine Wp.reg (by simp -implicitDefEqProofs [ha, hb2, hlt, hi, hw, hab]; exact ⟨rfl, rfl⟩) ?_ | refine Wp.regA (by simp -implicitDefEqProofs [ha, hb2, hlt, hi, hw, hab]; exact ⟨rfl, rfl⟩) (by rfl) ?_))
        (apply endK_r; (focus (simp -implicitDefEqProofs [Tryz.f17, hf]; try rfl)); (focus (intro g; simp -implicitDefEqProofs [Tryz.f17, hf])); exact ⟨_, rfl⟩)
      | true =>
        (repeat (first | refine Wp.seq ?_ | refine Wp.block ?_ | refine Wp.skip ?_ | refine Wp.exit ?_ | refine Wp.ret ?_ | refine thenK_n ?_ | refine thenK_r ?_ | refine thenK_e ?_ | refine blockK_n ?_ | refine blockK_r ?_ | refine blockK_e ?_ | refine blockK_o (by decide) ?_ | (refine Wp.condT ?_ ?_; focus (simp -implicitDefEqProofs [ha, hb2, hlt, hi, hw, hab] <;> fail)) | (refine Wp.condF ?_ ?_; focus (simp -implicitDefEqProofs [ha, hb2, hlt, hi, hw, hab] <;> fail)) | refine Wp.reg (by simp -implicitDefEqProofs [ha, hb2, hlt, hi, hw, hab]; exact ⟨rfl, rfl⟩) ?_ | refine Wp.regA (by simp -implicitDefEqProofs [ha, hb2, hlt, hi, hw, hab]; exact ⟨rfl, rfl⟩) (by rfl) ?_))
        refine ⟨by simp, ⟨_, by simp -implicitDefEqProofs; rfl⟩, r1.length, by simp, d1 ++ [a], r1, d2 ++ [b], r2, by simp [h1], by simp [h2], by simp [hd], rfl, by simp, by rw [RT.beqs_split hd]; simp [hbs, hab, RT.beqs]⟩
theorem same1_c {k m : Int} {ts us : List RT} (ht : (RT.mk k ts).nodes ≤ 1000000000) (g : Nat) (S : St) (o1 o2 : Own) : callT (X.at g) (den X E) S 17 [.agg [.int .i64 k, .sl (List.map RT.cells ts) o1], .agg [.int .i64 m, .sl (List.map RT.cells us) o2]] = some (.bool ((RT.mk k ts).beq (.mk m us)), S) := by
  simpa using call_up (cf := X.at g) (fn := Tryz.f17) (args' := [.agg [.int .i64 k, .sl (List.map RT.cells ts) o1], .agg [.int .i64 m, .sl (List.map RT.cells us) o2]]) (by kernel_rfl) (by simp) (by simp; try rfl) (same1 (.mk k ts) (.mk m us) ht) S
theorem Ty.raw_beq (s u : Ty) : s.raw.beq u.raw = decide (s = u) := by
  rw [Bool.eq_iff_iff, RT.beq_iff, decide_eq_true_eq]
  exact ⟨fun h => Ty.raw_inj h, fun h => by rw [h]⟩
end M
end Go.Proofs.YthclcchnodjjpaaGreatDoor
