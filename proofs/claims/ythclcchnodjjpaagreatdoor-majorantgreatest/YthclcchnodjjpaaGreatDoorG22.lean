/- A part of the proof: EvF, EvZ. -/
import Derived.Test.YthclcchnodjjpaaGreatDoorG21
import Derived.Test.YthclcchnodjjpaaGreatDoorG20
/- ref06: eval, case by case (6). -/
set_option linter.unusedVariables false
set_option linter.unusedSimpArgs false
set_option maxRecDepth 10000
set_option maxHeartbeats 4000000
namespace Go.Proofs.YthclcchnodjjpaaGreatDoor
namespace M
attribute [local irreducible] Wp thenK blockK endK
variable {E : Oracle}
open T (V Ty Tm noTy Eval Ans evM evStep callV recU foldU roundR roundF)
attribute [local simp] noTy
theorem eval_fold {M u : Nat} {e : List V} {s : Ty} {b f c : Tm} {r1 r2 r3 : Ans} {l : List Nat} {q : List Nat → Ans} (hu : u < M) (hM : M ≤ 1000000) (h1 : EvD E M (u + 1) e b r1) (h2 : r1.2.2 = false → EvD E M r1.2.1 e f r2) (h3 : r1.2.2 = false → r2.2.2 = false → EvD E M r2.2.1 e c r3)
    (hk : r1.2.2 = false → r2.2.2 = false → r3.2.2 = false → r3.1 = .list l ∧ l.length ≤ 1000000000)
    (hq0 : q [] = (r1.1, r3.2.1, false)) (hqo : ∀ x t, (q t).2.2 = true → q (x :: t) = q t)
    (hqs : ∀ (x : Nat) (t : List Nat), (∃ fr, l = fr ++ x :: t) → (q t).2.2 = false → ∃ d, CaD E M (q t).2.1 r2.1 (.num x) d ∧ (if d.2.2 = true then q (x :: t) = ((q t).1, d.2.1, true) else
      ∃ c, CaD E M d.2.1 d.1 (.list t) c ∧ (if c.2.2 = true then q (x :: t) = ((q t).1, c.2.1, true) else CaD E M c.2.1 c.1 (q t).1 (q (x :: t))))) :
    EvD E M u e (.fold s b f c) (if r1.2.2 = true then (.unit, r1.2.1, true) else if r2.2.2 = true then (.unit, r2.2.1, true) else if r3.2.2 = true then (.unit, r3.2.1, true) else q l) := by
  obtain ⟨v1, u1, o1⟩ := r1
  have c1 := evD_c h1
  have hne : ((u : Int) == (M : Int)) = false := by simp; omega
  have hw : IntKind.i64.wrap ((u : Int) + 1) = u + 1 := IntWalk.i64_in _ (by omega)
  have hw1 : IntKind.i64.wrap 1 = 1 := by decide
  have hw2 : IntKind.i64.wrap 2 = 2 := by decide
  have hw3 : IntKind.i64.wrap 3 = 3 := by decide
  cases o1 with
  | true =>
    simp at c1
    simp only [if_true]
    unfold EvD
    simp [Tm.raw]
    refine den_w (fn := Tryz.f65) (σ1 := [[.int .i64 u1, .int .i64 M, .bool true]]) (by rfl) (by rfl) (by kernel_rfl) rfl (by rfl) (by rfl) (by simp -implicitDefEqProofs) ?_
    simp -implicitDefEqProofs
    (repeat (first | refine Wp.seq ?_ | refine Wp.block ?_ | refine Wp.skip ?_ | refine Wp.exit ?_ | refine Wp.ret ?_ | refine thenK_n ?_ | refine thenK_r ?_ | refine thenK_e ?_ | refine blockK_n ?_ | refine blockK_r ?_ | refine blockK_e ?_ | refine blockK_o (by decide) ?_ | (refine Wp.condT ?_ ?_; focus (simp -implicitDefEqProofs [hne, hw, hw1, hw2, hw3, c1] <;> fail)) | (refine Wp.condF ?_ ?_; focus (simp -implicitDefEqProofs [hne, hw, hw1, hw2, hw3, c1] <;> fail)) | refine Wp.reg (by simp -implicitDefEqProofs [hne, hw, hw1, hw2, hw3, c1]; exact ⟨rfl, rfl⟩) ?_ | refine Wp.regA (by simp -implicitDefEqProofs [hne, hw, hw1, hw2, hw3, c1]; exact ⟨rfl, rfl⟩) (by rfl) ?_ | refine Wp.unroll ?_))
    (apply endK_r; (focus (simp -implicitDefEqProofs [Tryz.f65]; try rfl)); (focus (intro g; simp -implicitDefEqProofs [Tryz.f65])); exact ⟨_, rfl⟩)
  | false =>
    simp at c1
    have c2 := evD_c (h2 rfl)
    obtain ⟨v2, u2, o2⟩ := r2
    simp only [Bool.false_eq_true, if_false]
    cases o2 with
    | true =>
      simp at c2
      simp only [if_true]
      unfold EvD
      simp [Tm.raw]
      refine den_w (fn := Tryz.f65) (σ1 := [[.int .i64 u2, .int .i64 M, .bool true]]) (by rfl) (by rfl) (by kernel_rfl) rfl (by rfl) (by rfl) (by simp -implicitDefEqProofs) ?_
      simp -implicitDefEqProofs
      (repeat (first | refine Wp.seq ?_ | refine Wp.block ?_ | refine Wp.skip ?_ | refine Wp.exit ?_ | refine Wp.ret ?_ | refine thenK_n ?_ | refine thenK_r ?_ | refine thenK_e ?_ | refine blockK_n ?_ | refine blockK_r ?_ | refine blockK_e ?_ | refine blockK_o (by decide) ?_ | (refine Wp.condT ?_ ?_; focus (simp -implicitDefEqProofs [hne, hw, hw1, hw2, hw3, c1, c2] <;> fail)) | (refine Wp.condF ?_ ?_; focus (simp -implicitDefEqProofs [hne, hw, hw1, hw2, hw3, c1, c2] <;> fail)) | refine Wp.reg (by simp -implicitDefEqProofs [hne, hw, hw1, hw2, hw3, c1, c2]; exact ⟨rfl, rfl⟩) ?_ | refine Wp.regA (by simp -implicitDefEqProofs [hne, hw, hw1, hw2, hw3, c1, c2]; exact ⟨rfl, rfl⟩) (by rfl) ?_ | refine Wp.unroll ?_))
      (apply endK_r; (focus (simp -implicitDefEqProofs [Tryz.f65]; try rfl)); (focus (intro g; simp -implicitDefEqProofs [Tryz.f65])); exact ⟨_, rfl⟩)
    | false =>
      simp at c2
      have c3 := evD_c (h3 rfl rfl)
      obtain ⟨v3, u3, o3⟩ := r3
      simp only [Bool.false_eq_true, if_false]
      cases o3 with
      | true =>
        simp at c3
        simp only [if_true]
        unfold EvD
        simp [Tm.raw]
        refine den_w (fn := Tryz.f65) (σ1 := [[.int .i64 u3, .int .i64 M, .bool true]]) (by rfl) (by rfl) (by kernel_rfl) rfl (by rfl) (by rfl) (by simp -implicitDefEqProofs) ?_
        simp -implicitDefEqProofs
        (repeat (first | refine Wp.seq ?_ | refine Wp.block ?_ | refine Wp.skip ?_ | refine Wp.exit ?_ | refine Wp.ret ?_ | refine thenK_n ?_ | refine thenK_r ?_ | refine thenK_e ?_ | refine blockK_n ?_ | refine blockK_r ?_ | refine blockK_e ?_ | refine blockK_o (by decide) ?_ | (refine Wp.condT ?_ ?_; focus (simp -implicitDefEqProofs [hne, hw, hw1, hw2, hw3, c1, c2, c3] <;> fail)) | (refine Wp.condF ?_ ?_; focus (simp -implicitDefEqProofs [hne, hw, hw1, hw2, hw3, c1, c2, c3] <;> fail)) | refine Wp.reg (by simp -implicitDefEqProofs [hne, hw, hw1, hw2, hw3, c1, c2, c3]; exact ⟨rfl, rfl⟩) ?_ | refine Wp.regA (by simp -implicitDefEqProofs [hne, hw, hw1, hw2, hw3, c1, c2, c3]; exact ⟨rfl, rfl⟩) (by rfl) ?_ | refine Wp.unroll ?_))
        (apply endK_r; (focus (simp -implicitDefEqProofs [Tryz.f65]; try rfl)); (focus (intro g; simp -implicitDefEqProofs [Tryz.f65])); exact ⟨_, rfl⟩)
      | false =>
        obtain ⟨e3, hk2⟩ := hk rfl rfl rfl
        simp only at e3
        subst e3
        simp only [Bool.false_eq_true, if_false]
        simp only at hq0 hqs
        simp at c3
        clear h1 h2 h3 hk
        have hl0 : IntKind.i64.wrap ((l.length : Int) - 1) = (l.length : Int) - 1 := IntWalk.i64_in _ (by omega)
        unfold EvD
        obtain ⟨x0, σ0, hx0, hσ0⟩ : ∃ x0 σ0, x0 = RX.enc (V.rx (q l).1) ∧ σ0 = [[AV.int .i64 (q l).2.1, .int .i64 M, .bool (q l).2.2]] := ⟨_, _, rfl, rfl⟩
        rw [← hx0, ← hσ0]
        simp [Tm.raw]
        refine den_w (fn := Tryz.f65) (σ1 := σ0) (by rfl) (by rfl) (by kernel_rfl) rfl (by rfl) (by rw [hσ0]; rfl) (by rw [hσ0]; simp) ?_
        simp
        (repeat (first | refine Wp.seq ?_ | refine Wp.skip ?_ | refine Wp.exit ?_ | refine Wp.ret ?_ | refine thenK_n ?_ | refine thenK_r ?_ | refine thenK_e ?_ | refine blockK_n ?_ | refine blockK_r ?_ | refine blockK_e ?_ | refine blockK_o (by decide) ?_ | (refine Wp.condT ?_ ?_; focus (simp -implicitDefEqProofs [hne, hw] <;> fail)) | (refine Wp.condF ?_ ?_; focus (simp -implicitDefEqProofs [hne, hw] <;> fail)) | refine Wp.reg (by simp -implicitDefEqProofs [hne, hw]; exact ⟨rfl, rfl⟩) ?_ | refine Wp.regA (by simp -implicitDefEqProofs [hne, hw]; exact ⟨rfl, rfl⟩) (by rfl) ?_))
        refine Wp.block ?_
        refine Wp.unroll ?_
        (repeat (first | refine Wp.seq ?_ | refine Wp.block ?_ | refine Wp.skip ?_ | refine Wp.exit ?_ | refine Wp.ret ?_ | refine thenK_n ?_ | refine thenK_r ?_ | refine thenK_e ?_ | refine blockK_n ?_ | refine blockK_r ?_ | refine blockK_e ?_ | refine blockK_o (by decide) ?_ | (refine Wp.condT ?_ ?_; focus (simp -implicitDefEqProofs [hne, hw, hw1, c1] <;> fail)) | (refine Wp.condF ?_ ?_; focus (simp -implicitDefEqProofs [hne, hw, hw1, c1] <;> fail)) | refine Wp.reg (by simp -implicitDefEqProofs [hne, hw, hw1, c1]; exact ⟨rfl, rfl⟩) ?_ | refine Wp.regA (by simp -implicitDefEqProofs [hne, hw, hw1, c1]; exact ⟨rfl, rfl⟩) (by rfl) ?_))
        refine Wp.unroll ?_
        (repeat (first | refine Wp.seq ?_ | refine Wp.block ?_ | refine Wp.skip ?_ | refine Wp.exit ?_ | refine Wp.ret ?_ | refine thenK_n ?_ | refine thenK_r ?_ | refine thenK_e ?_ | refine blockK_n ?_ | refine blockK_r ?_ | refine blockK_e ?_ | refine blockK_o (by decide) ?_ | (refine Wp.condT ?_ ?_; focus (simp -implicitDefEqProofs [hw2, c2] <;> fail)) | (refine Wp.condF ?_ ?_; focus (simp -implicitDefEqProofs [hw2, c2] <;> fail)) | refine Wp.reg (by simp -implicitDefEqProofs [hw2, c2]; exact ⟨rfl, rfl⟩) ?_ | refine Wp.regA (by simp -implicitDefEqProofs [hw2, c2]; exact ⟨rfl, rfl⟩) (by rfl) ?_))
        refine Wp.unroll ?_
        (repeat (first | refine Wp.seq ?_ | refine Wp.block ?_ | refine Wp.skip ?_ | refine Wp.exit ?_ | refine Wp.ret ?_ | refine thenK_n ?_ | refine thenK_r ?_ | refine thenK_e ?_ | refine blockK_n ?_ | refine blockK_r ?_ | refine blockK_e ?_ | refine blockK_o (by decide) ?_ | (refine Wp.condT ?_ ?_; focus (simp -implicitDefEqProofs [hw3, c3] <;> fail)) | (refine Wp.condF ?_ ?_; focus (simp -implicitDefEqProofs [hw3, c3] <;> fail)) | refine Wp.reg (by simp -implicitDefEqProofs [hw3, c3]; exact ⟨rfl, rfl⟩) ?_ | refine Wp.regA (by simp -implicitDefEqProofs [hw3, c3]; exact ⟨rfl, rfl⟩) (by rfl) ?_))
        refine Wp.unroll ?_
        (repeat (first | refine Wp.seq ?_ | refine Wp.block ?_ | refine Wp.skip ?_ | refine Wp.exit ?_ | refine Wp.ret ?_ | refine thenK_n ?_ | refine thenK_r ?_ | refine thenK_e ?_ | refine blockK_n ?_ | refine blockK_r ?_ | refine blockK_e ?_ | refine blockK_o (by decide) ?_ | (refine Wp.condT ?_ ?_; focus (simp -implicitDefEqProofs [hl0] <;> fail)) | (refine Wp.condF ?_ ?_; focus (simp -implicitDefEqProofs [hl0] <;> fail)) | refine Wp.reg (by simp -implicitDefEqProofs [hl0]; exact ⟨rfl, rfl⟩) ?_ | refine Wp.regA (by simp -implicitDefEqProofs [hl0]; exact ⟨rfl, rfl⟩) (by rfl) ?_))
        refine Wp.loopF [14, 15, 164, 165, 166, 167, 168, 169, 170, 171, 172, 173, 174, 175, 176, 177, 178, 179, 180, 181, 182, 183, 184, 185, 186, 187, 188, 189, 190, 191, 192, 193, 194, 195, 196, 197, 198, 199, 200, 201, 202, 203, 204, 205, 206, 207, 208, 209, 210, 211, 212] [0, 6] (fun n w c tk => ∃ fr t, l = fr ++ t ∧ n = fr.length ∧ w 14 = .int .i64 ((fr.length : Int) - 1) ∧ c 0 = [.int .i64 (q t).2.1, .int .i64 M, .bool (q t).2.2] ∧ c 6 = (V.rx (q t).1).cells) (l.length) ?_ ?_ ?_ ?_
        · rfl
        · rfl
        · exact ⟨l, [], by simp, rfl, rfl, by simp [hq0], by simp [hq0]⟩
        rintro n w cc junk tk r σ ⟨fr, t, hl, rfl, h14, hc0, hc6⟩ hr hσ
        obtain ⟨p, hp⟩ : ∃ p, q t = p := ⟨_, rfl⟩
        rw [hp] at hc0 hc6
        obtain ⟨pv, pu, po⟩ := p
        simp -implicitDefEqProofs [h14, hc0, hc6] at hr hσ
        subst hr hσ
        cases po with
        | true =>
          have hstay : ∀ fr : List Nat, q (fr ++ t) = q t := by
            intro fr
            induction fr with
            | nil => rfl
            | cons x fr ihd => rw [List.cons_append, hqo _ _ (by rw [ihd, hp]), ihd]
          have hkj : q l = (pv, pu, true) := by rw [← hp, ← hstay fr, ← hl]
          rw [hkj] at hx0 hσ0
          simp at hx0 hσ0
          subst hx0 hσ0
          by_cases hf0 : (1 : Int) ≤ fr.length
          · (repeat (first | refine Wp.seq ?_ | refine Wp.block ?_ | refine Wp.skip ?_ | refine Wp.exit ?_ | refine Wp.ret ?_ | refine thenK_n ?_ | refine thenK_r ?_ | refine thenK_e ?_ | refine blockK_n ?_ | refine blockK_r ?_ | refine blockK_e ?_ | refine blockK_o (by decide) ?_ | (refine Wp.condT ?_ ?_; focus (simp -implicitDefEqProofs [hf0] <;> fail)) | (refine Wp.condF ?_ ?_; focus (simp -implicitDefEqProofs [hf0] <;> fail)) | refine Wp.reg (by simp -implicitDefEqProofs [hf0]; exact ⟨rfl, rfl⟩) ?_ | refine Wp.regA (by simp -implicitDefEqProofs [hf0]; exact ⟨rfl, rfl⟩) (by rfl) ?_))
            (apply endK_r; (focus (simp -implicitDefEqProofs [Tryz.f65]; try rfl)); (focus (intro g; simp -implicitDefEqProofs [Tryz.f65])); exact ⟨_, rfl⟩)
          · (repeat (first | refine Wp.seq ?_ | refine Wp.block ?_ | refine Wp.skip ?_ | refine Wp.exit ?_ | refine Wp.ret ?_ | refine thenK_n ?_ | refine thenK_r ?_ | refine thenK_e ?_ | refine blockK_n ?_ | refine blockK_r ?_ | refine blockK_e ?_ | refine blockK_o (by decide) ?_ | (refine Wp.condT ?_ ?_; focus (simp -implicitDefEqProofs [hf0] <;> fail)) | (refine Wp.condF ?_ ?_; focus (simp -implicitDefEqProofs [hf0] <;> fail)) | refine Wp.reg (by simp -implicitDefEqProofs [hf0]; exact ⟨rfl, rfl⟩) ?_ | refine Wp.regA (by simp -implicitDefEqProofs [hf0]; exact ⟨rfl, rfl⟩) (by rfl) ?_))
            (apply endK_r; (focus (simp -implicitDefEqProofs [Tryz.f65]; try rfl)); (focus (intro g; simp -implicitDefEqProofs [Tryz.f65])); exact ⟨_, rfl⟩)
        | false =>
          rcases List.eq_nil_or_concat fr with rfl | ⟨fr, x, rfl⟩
          · simp at hl
            subst hl
            rw [hp] at hx0 hσ0
            simp at hx0 hσ0
            subst hx0 hσ0
            (repeat (first | refine Wp.seq ?_ | refine Wp.block ?_ | refine Wp.skip ?_ | refine Wp.exit ?_ | refine Wp.ret ?_ | refine thenK_n ?_ | refine thenK_r ?_ | refine thenK_e ?_ | refine blockK_n ?_ | refine blockK_r ?_ | refine blockK_e ?_ | refine blockK_o (by decide) ?_ | (refine Wp.condT ?_ ?_; focus (simp -implicitDefEqProofs <;> fail)) | (refine Wp.condF ?_ ?_; focus (simp -implicitDefEqProofs <;> fail)) | refine Wp.reg (by simp -implicitDefEqProofs; exact ⟨rfl, rfl⟩) ?_ | refine Wp.regA (by simp -implicitDefEqProofs; exact ⟨rfl, rfl⟩) (by rfl) ?_))
            (apply endK_r; (focus (simp -implicitDefEqProofs [Tryz.f65]; try rfl)); (focus (intro g; simp -implicitDefEqProofs [Tryz.f65])); exact ⟨_, rfl⟩)
          simp at hl
          have hlen : fr.length < l.length := by rw [hl]; simp
          have hel : el l fr.length = some x := by simp [hl, el]
          have hi1 : (0 : Int) ≤ (fr.length : Int) + 1 - 1 := by omega
          have hi2 : (fr.length : Int) + 1 - 1 = fr.length := by omega
          have hwj : IntKind.i64.wrap ((fr.length : Int) - 1) = (fr.length : Int) - 1 := IntWalk.i64_in _ (by omega)
          have hwj2 : IntKind.i64.wrap ((fr.length : Int) + 1) = (fr.length : Int) + 1 := IntWalk.i64_in _ (by omega)
          have hsl : ∀ k, sliceT (X.at k) 22 (.sl (List.map (ic ∘ Int.ofNat) l) .dead) (some (some (.int .i64 ((fr.length : Int) + 1)))) none none = some (.sl (List.map (ic ∘ Int.ofNat) t) .dead) := by
            intro k
            have h1 : (List.map (ic ∘ Int.ofNat) l).all (fun c => c.length == 1) = true := by simp
            have htk : List.drop (fr.length + 1) (List.map (ic ∘ Int.ofNat) l) = List.map (ic ∘ Int.ofNat) t := by rw [hl]; simp [List.drop_append]
            have h2 : (0 : Int) ≤ (fr.length : Int) + 1 := by omega
            have h3 : (fr.length : Int) + 1 ≤ l.length := by omega
            have h4 : ((fr.length : Int) + 1).toNat = fr.length + 1 := by omega
            have h5 : List.take (l.length - (fr.length + 1)) (List.map (ic ∘ Int.ofNat) t) = List.map (ic ∘ Int.ofNat) t := by rw [List.take_of_length_le (by rw [hl]; simp; omega)]
            simp [sliceT, h1, htk, h2, h3, h4, h5]
          obtain ⟨⟨dv, du, dd'⟩, hd, hnext⟩ := hqs x t ⟨fr, by simpa using hl⟩ (by rw [hp])
          rw [hp] at hd hnext
          have d1 := caD_c hd
          cases dd' with
          | true =>
            simp at d1 hnext
            (repeat (first | refine Wp.seq ?_ | refine Wp.block ?_ | refine Wp.skip ?_ | refine Wp.exit ?_ | refine Wp.ret ?_ | refine thenK_n ?_ | refine thenK_r ?_ | refine thenK_e ?_ | refine blockK_n ?_ | refine blockK_r ?_ | refine blockK_e ?_ | refine blockK_o (by decide) ?_ | (refine Wp.condT ?_ ?_; focus (simp -implicitDefEqProofs [hel, hi1, hi2, hwj, d1] <;> fail)) | (refine Wp.condF ?_ ?_; focus (simp -implicitDefEqProofs [hel, hi1, hi2, hwj, d1] <;> fail)) | refine Wp.reg (by simp -implicitDefEqProofs [hel, hi1, hi2, hwj, d1]; exact ⟨rfl, rfl⟩) ?_ | refine Wp.regA (by simp -implicitDefEqProofs [hel, hi1, hi2, hwj, d1]; exact ⟨rfl, rfl⟩) (by rfl) ?_))
            refine ⟨by simp, ⟨_, by simp -implicitDefEqProofs; rfl⟩, fr.length, by simp, fr, x :: t, by simp [hl], rfl, by simp, by simp [hnext], by simp [hnext]⟩
          | false =>
            simp at d1
            simp only [Bool.false_eq_true, if_false] at hnext
            obtain ⟨⟨ev, eu, eo⟩, he, hnext⟩ := hnext
            have d2 := caD_c he
            cases eo with
            | true =>
              simp at d2 hnext
              (repeat (first | refine Wp.seq ?_ | refine Wp.block ?_ | refine Wp.skip ?_ | refine Wp.exit ?_ | refine Wp.ret ?_ | refine thenK_n ?_ | refine thenK_r ?_ | refine thenK_e ?_ | refine blockK_n ?_ | refine blockK_r ?_ | refine blockK_e ?_ | refine blockK_o (by decide) ?_ | (refine Wp.condT ?_ ?_; focus (simp -implicitDefEqProofs [-sliceT, hsl, hel, hi1, hi2, hwj, hwj2, d1, d2] <;> fail)) | (refine Wp.condF ?_ ?_; focus (simp -implicitDefEqProofs [-sliceT, hsl, hel, hi1, hi2, hwj, hwj2, d1, d2] <;> fail)) | refine Wp.reg (by simp -implicitDefEqProofs [-sliceT, hsl, hel, hi1, hi2, hwj, hwj2, d1, d2]; exact ⟨rfl, rfl⟩) ?_ | refine Wp.regA (by simp -implicitDefEqProofs [-sliceT, hsl, hel, hi1, hi2, hwj, hwj2, d1, d2]; exact ⟨rfl, rfl⟩) (by rfl) ?_))
              refine ⟨by simp, ⟨_, by simp -implicitDefEqProofs; rfl⟩, fr.length, by simp, fr, x :: t, by simp [hl], rfl, by simp, by simp [hnext], by simp [hnext]⟩
            | false =>
              simp at d2 hnext
              have d3 := caD_c hnext
              obtain ⟨⟨qv, qu, qo⟩, hqq⟩ : ∃ p', q (x :: t) = p' := ⟨_, rfl⟩
              rw [hqq] at d3
              simp at d3
              (repeat (first | refine Wp.seq ?_ | refine Wp.block ?_ | refine Wp.skip ?_ | refine Wp.exit ?_ | refine Wp.ret ?_ | refine thenK_n ?_ | refine thenK_r ?_ | refine thenK_e ?_ | refine blockK_n ?_ | refine blockK_r ?_ | refine blockK_e ?_ | refine blockK_o (by decide) ?_ | (refine Wp.condT ?_ ?_; focus (simp -implicitDefEqProofs [-sliceT, hsl, hel, hi1, hi2, hwj, hwj2, d1, d2, d3] <;> fail)) | (refine Wp.condF ?_ ?_; focus (simp -implicitDefEqProofs [-sliceT, hsl, hel, hi1, hi2, hwj, hwj2, d1, d2, d3] <;> fail)) | refine Wp.reg (by simp -implicitDefEqProofs [-sliceT, hsl, hel, hi1, hi2, hwj, hwj2, d1, d2, d3]; exact ⟨rfl, rfl⟩) ?_ | refine Wp.regA (by simp -implicitDefEqProofs [-sliceT, hsl, hel, hi1, hi2, hwj, hwj2, d1, d2, d3]; exact ⟨rfl, rfl⟩) (by rfl) ?_))
              refine ⟨by simp, ⟨_, by simp -implicitDefEqProofs; rfl⟩, fr.length, by simp, fr, x :: t, by simp [hl], rfl, by simp, by simp [hqq], by simp [hqq]⟩
end M
end Go.Proofs.YthclcchnodjjpaaGreatDoor
/- ref06: eval, whole. -/
set_option linter.unusedVariables false
set_option linter.unusedSimpArgs false
set_option maxRecDepth 10000
set_option maxHeartbeats 4000000
namespace Go.Proofs.YthclcchnodjjpaaGreatDoor
namespace M
attribute [local irreducible] Wp thenK blockK endK
variable {E : Oracle}
open T (V Ty Tm noTy Eval Ans evM evStep callV recU foldU roundR roundF VT VB ET EB Okr Fine Env)
/-- eval answers as the machine does. -/
def Gd (E : Oracle) (M n : Nat) : Prop := ∀ (C u : Nat) (e : List V) (t : Tm) (g : List Ty) (s : Ty) (d : Env g → s.den), T.Sem g t s d → ET g e → EB C e → u ≤ M → M - u < n → C + (M - u) ≤ 900000000 → EvD E M u e t (evM M n u e t)
theorem Gd.call {M n : Nat} (H : Gd E M n) {C u : Nat} {s w : Ty} {f a : V} (hf : VT (.fn s w) f) (hfb : VB C f) (ha : VT s a) (hab : VB C a) (hu : u ≤ M) (hn : M - u < n) (hC : C + (M - u) ≤ 900000000) : CaD E M u f a (callV (evM M n) u f a) := by
  cases hf with
  | clo hs hl he =>
    cases hfb with
    | clo h1 h2 =>
      refine call6 (by omega) (H C u _ _ _ _ _ hs (T.ET.cons ha ⟨hl, he⟩) ⟨by simp only [List.length_cons]; omega, fun v hv => ?_⟩ hu hn hC)
      rcases List.mem_cons.1 hv with rfl | hv
      · exact hab
      · exact h2 v hv
theorem Gd.step {M n : Nat} (hM : M ≤ 1000000) (H : Gd E M n) : Gd E M (n + 1) := by
  intro C u e t g s d hs he hb hu hn hC
  show EvD E M u e t (evStep M (evM M n) u e t)
  by_cases hM0 : u = M
  · have : evStep M (evM M n) u e t = (.unit, u, true) := by simp [evStep, hM0]
    rw [this]
    exact eval_end hM0
  have hlt : u < M := by omega
  have fine := T.evM_fine M n
  have sub : ∀ {t : Tm} {s : Ty} {d : Env g → s.den}, T.Sem g t s d → ∀ u', u < u' → u' ≤ M → EvD E M u' e t (evM M n u' e t) := fun h u' h1 h2 => H C u' e _ g _ _ h he hb h2 (by omega) (by omega)
  have okr : ∀ {t : Tm} {s : Ty} {d : Env g → s.den}, T.Sem g t s d → ∀ u', u < u' → u' ≤ M → Okr C M u' s (.tm e t) (evM M n u' e t) := fun h u' h1 h2 => fine C u' e _ g _ _ h he hb h2 (by omega)
  have hel : e.length ≤ 1000000000 := by have := hb.1; omega
  cases hs with
  | @var _ i _ p hl =>
    obtain ⟨v, hv, ht⟩ := he.get (T.look_get hl)
    have e1 : evStep M (evM M n) u e (.var i) = (v, u + 1, false) := by simp [evStep, hM0, List.getD, hv]
    rw [e1]
    exact eval_var hlt hM hv hel
  | lam h =>
    have e1 : ∀ s b, evStep M (evM M n) u e (.lam s b) = (.clo b e, u + 1, false) := by intro s b; simp [evStep, hM0]
    rw [e1]
    exact eval_lam hlt hM
  | zero =>
    have e1 : evStep M (evM M n) u e .zero = (.num 0, u + 1, false) := by rw [T.evStep_two hM0 (by intro i h; cases h) (by intro s b h; cases h)]; rfl
    rw [e1]
    exact eval_zero hlt hM
  | nil =>
    have e1 : evStep M (evM M n) u e .nil = (.list [], u + 1, false) := by rw [T.evStep_two hM0 (by intro i h; cases h) (by intro s b h; cases h)]; rfl
    rw [e1]
    exact eval_nil hlt hM
  | unit =>
    have e1 : evStep M (evM M n) u e .unit = (.unit, u + 1, false) := by rw [T.evStep_two hM0 (by intro i h; cases h) (by intro s b h; cases h)]; rfl
    rw [e1]
    exact eval_unit hlt hM
  | @succ _ a _ h1 =>
    have s1 := sub h1 (u + 1) (by omega) (by omega)
    have k1 := okr h1 (u + 1) (by omega) (by omega)
    rw [T.evStep_1 hM0 (by intro i h; cases h) (by intro s b h; cases h) rfl]
    revert s1 k1
    generalize evM M n (u + 1) e a = r1
    intro s1 k1
    by_cases o1 : r1.2.2 = true
    · have h := eval_succ (k := 0) hlt hM s1 (fun h => by rw [o1] at h; cases h)
      rw [if_pos o1] at h ⊢
      exact h
    · obtain ⟨t1, m1, _, _, q1, b1⟩ := k1.2.2 (by simpa using o1)
      obtain ⟨k, hk⟩ := t1.inv_nat
      rw [hk] at b1
      have := b1.inv_num
      have h := eval_succ (k := k) hlt hM s1 (fun _ => ⟨hk, by have := k1.2.1; omega⟩)
      rw [if_neg o1] at h ⊢
      rw [hk]
      exact h
  | @fst _ s u' a _ h1 =>
    have s1 := sub h1 (u + 1) (by omega) (by omega)
    have k1 := okr h1 (u + 1) (by omega) (by omega)
    rw [T.evStep_1 hM0 (by intro i h; cases h) (by intro s b h; cases h) rfl]
    revert s1 k1
    generalize evM M n (u + 1) e a = r1
    intro s1 k1
    by_cases o1 : r1.2.2 = true
    · have h := eval_fst (x := .unit) (y := .unit) hlt hM s1 (fun h => by rw [o1] at h; cases h)
      rw [if_pos o1] at h ⊢
      exact h
    · obtain ⟨t1, m1, _, _, q1, b1⟩ := k1.2.2 (by simpa using o1)
      obtain ⟨x, y, hk⟩ := t1.inv_pair
      have h := eval_fst (x := x) (y := y) hlt hM s1 (fun _ => hk)
      rw [if_neg o1] at h ⊢
      rw [hk]
      exact h
  | @snd _ s u' a _ h1 =>
    have s1 := sub h1 (u + 1) (by omega) (by omega)
    have k1 := okr h1 (u + 1) (by omega) (by omega)
    rw [T.evStep_1 hM0 (by intro i h; cases h) (by intro s b h; cases h) rfl]
    revert s1 k1
    generalize evM M n (u + 1) e a = r1
    intro s1 k1
    by_cases o1 : r1.2.2 = true
    · have h := eval_snd (x := .unit) (y := .unit) hlt hM s1 (fun h => by rw [o1] at h; cases h)
      rw [if_pos o1] at h ⊢
      exact h
    · obtain ⟨t1, m1, _, _, q1, b1⟩ := k1.2.2 (by simpa using o1)
      obtain ⟨x, y, hk⟩ := t1.inv_pair
      have h := eval_snd (x := x) (y := y) hlt hM s1 (fun _ => hk)
      rw [if_neg o1] at h ⊢
      rw [hk]
      exact h
  | @pair _ s1 u1 a b df da h1 h2 =>
    have s1 := sub h1 (u + 1) (by omega) (by omega)
    have k1 := okr h1 (u + 1) (by omega) (by omega)
    have s2 := fun h : (evM M n (u + 1) e a).2.2 = false => sub h2 (evM M n (u + 1) e a).2.1 (by have := k1.1; omega) k1.2.1
    rw [T.evStep_2 hM0 (by intro i h; cases h) (by intro s b h; cases h) rfl]
    exact eval_pair hlt hM s1 s2
  | @app _ s1 u1 f a df da h1 h2 =>
    have s1 := sub h1 (u + 1) (by omega) (by omega)
    have k1 := okr h1 (u + 1) (by omega) (by omega)
    have s2 := fun h : (evM M n (u + 1) e f).2.2 = false => sub h2 (evM M n (u + 1) e f).2.1 (by have := k1.1; omega) k1.2.1
    have k2 := fun h : (evM M n (u + 1) e f).2.2 = false => okr h2 (evM M n (u + 1) e f).2.1 (by have := k1.1; omega) k1.2.1
    rw [T.evStep_2 hM0 (by intro i h; cases h) (by intro s b h; cases h) rfl]
    refine eval_app hlt hM s1 s2 fun o1 o2 => ?_
    obtain ⟨t1, m1, _, _, q1, b1⟩ := k1.2.2 o1
    obtain ⟨c1, c2, c3⟩ := k2 o1
    obtain ⟨t2, m2, _, _, q2, b2⟩ := c3 o2
    exact H.call (C := C + m1 + m2) t1 (b1.mono (by omega)) t2 (b2.mono (by omega)) c2 (by omega) (by omega)
  | @cons _ a b df da h1 h2 =>
    have s1 := sub h1 (u + 1) (by omega) (by omega)
    have k1 := okr h1 (u + 1) (by omega) (by omega)
    have s2 := fun h : (evM M n (u + 1) e a).2.2 = false => sub h2 (evM M n (u + 1) e a).2.1 (by have := k1.1; omega) k1.2.1
    have k2 := fun h : (evM M n (u + 1) e a).2.2 = false => okr h2 (evM M n (u + 1) e a).2.1 (by have := k1.1; omega) k1.2.1
    rw [T.evStep_2 hM0 (by intro i h; cases h) (by intro s b h; cases h) rfl]
    revert s1 k1 s2 k2
    generalize evM M n (u + 1) e a = r1
    intro s1 k1 s2 k2
    revert s2 k2
    generalize evM M n r1.2.1 e b = r2
    intro s2 k2
    by_cases o1 : r1.2.2 = true
    · have h := eval_cons (k := 0) (l := []) hlt hM s1 s2 (fun h => by rw [o1] at h; cases h)
      rw [if_pos o1] at h ⊢
      exact h
    have o1' : r1.2.2 = false := by simpa using o1
    obtain ⟨c1, c2, c3⟩ := k2 o1'
    by_cases o2 : r2.2.2 = true
    · have h := eval_cons (k := 0) (l := []) hlt hM s1 s2 (fun _ h => by rw [o2] at h; cases h)
      rw [if_neg o1, if_pos o2] at h ⊢
      exact h
    have o2' : r2.2.2 = false := by simpa using o2
    obtain ⟨t1, m1, _, _, q1, b1⟩ := k1.2.2 o1'
    obtain ⟨t2, m2, _, _, q2, b2⟩ := c3 o2'
    obtain ⟨k, hk⟩ := t1.inv_nat
    obtain ⟨l, hl⟩ := t2.inv_list
    rw [hl] at b2
    have := b2.inv_list.1
    have h := eval_cons (k := k) (l := l) hlt hM s1 s2 (fun _ _ => ⟨hk, hl, by omega⟩)
    rw [if_neg o1, if_neg o2] at h ⊢
    rw [hk, hl]
    exact h
  | @recn _ _ b f c db df dc h1 h2 h3 =>
    have s1 := sub h1 (u + 1) (by omega) (by omega)
    have k1 := okr h1 (u + 1) (by omega) (by omega)
    have s2 := fun h : (evM M n (u + 1) e b).2.2 = false => sub h2 (evM M n (u + 1) e b).2.1 (by have := k1.1; omega) k1.2.1
    have k2 := okr h2 (evM M n (u + 1) e b).2.1 (by have := k1.1; omega) k1.2.1
    have s3 := fun (h : (evM M n (u + 1) e b).2.2 = false) (h' : (evM M n (evM M n (u + 1) e b).2.1 e f).2.2 = false) => sub h3 (evM M n (evM M n (u + 1) e b).2.1 e f).2.1 (by have := k1.1; have := k2.1; omega) k2.2.1
    have k3 := okr h3 (evM M n (evM M n (u + 1) e b).2.1 e f).2.1 (by have := k1.1; have := k2.1; omega) k2.2.1
    rw [T.evStep_3 hM0 (by intro i h; cases h) (by intro s b h; cases h) rfl]
    revert s1 k1 s2 k2 s3 k3
    generalize evM M n (u + 1) e b = r1
    intro s1 k1 s2 k2
    revert s2 k2
    generalize evM M n r1.2.1 e f = r2
    intro s2 k2 s3 k3
    revert s3 k3
    generalize evM M n r2.2.1 e c = r3
    intro s3 k3
    have hqo : ∀ x : V, ∀ j, (recU (callV (evM M n)) r2.1 r1.1 r3.2.1 j).2.2 = true → recU (callV (evM M n)) r2.1 r1.1 r3.2.1 (j + 1) = recU (callV (evM M n)) r2.1 r1.1 r3.2.1 j := fun _ j h => by simp only [recU, roundR, if_pos h]
    by_cases o1 : r1.2.2 = true
    · have h := eval_recn (s := s) (k := 0) (q := recU (callV (evM M n)) r2.1 r1.1 r3.2.1) hlt hM s1 s2 s3 (fun h => by rw [o1] at h; cases h) rfl (hqo .unit) (fun j hj => by omega)
      rw [if_pos o1] at h ⊢
      exact h
    have o1' : r1.2.2 = false := by simpa using o1
    by_cases o2 : r2.2.2 = true
    · have h := eval_recn (s := s) (k := 0) (q := recU (callV (evM M n)) r2.1 r1.1 r3.2.1) hlt hM s1 s2 s3 (fun _ h => by rw [o2] at h; cases h) rfl (hqo .unit) (fun j hj => by omega)
      rw [if_neg o1, if_pos o2] at h ⊢
      exact h
    have o2' : r2.2.2 = false := by simpa using o2
    by_cases o3 : r3.2.2 = true
    · have h := eval_recn (s := s) (k := 0) (q := recU (callV (evM M n)) r2.1 r1.1 r3.2.1) hlt hM s1 s2 s3 (fun _ _ h => by rw [o3] at h; cases h) rfl (hqo .unit) (fun j hj => by omega)
      rw [if_neg o1, if_neg o2, if_pos o3] at h ⊢
      exact h
    have o3' : r3.2.2 = false := by simpa using o3
    obtain ⟨t1, m1, _, _, q1, b1⟩ := k1.2.2 o1'
    obtain ⟨t2, m2, _, _, q2, b2⟩ := k2.2.2 o2'
    obtain ⟨t3, m3, _, _, q3, b3⟩ := k3.2.2 o3'
    obtain ⟨k, hk⟩ := t3.inv_nat
    rw [hk] at b3
    have hk3 := b3.inv_num
    have hu3 := k3.2.1
    have h := eval_recn (s := s) (k := k) (q := recU (callV (evM M n)) r2.1 r1.1 r3.2.1) hlt hM s1 s2 s3 (fun _ _ _ => ⟨hk, by omega⟩) rfl (hqo .unit) (fun j hj ho => by
      have hr := fine.rec (C := C + m1 + m2 + m3) t2 (b2.mono (by omega)) t1 (b1.mono (by omega)) k3.2.1 (by omega) j (by omega)
      obtain ⟨x1, x2, x3⟩ := hr
      obtain ⟨y1, m4, _, _, y2, y3⟩ := x3 ho
      refine ⟨_, H.call (C := C + m1 + m2 + m3) t2 (b2.mono (by omega)) (.num j) (.num (by omega)) x2 (by omega) (by omega), ?_⟩
      split
      · rename_i hd
        simp only [recU, roundR, ho, hd, Bool.false_eq_true, if_false, if_true]
      · rename_i hd
        obtain ⟨b', e', hf, z1, z2, z3⟩ := fine.call (C := C + m1 + m2 + m3) t2 (b2.mono (by omega)) (.num j) (.num (by omega)) x2 (by omega)
        obtain ⟨w1, m5, _, _, w2, w3⟩ := z3 (by simpa using hd)
        have := H.call (C := C + m1 + m2 + m3 + m4 + m5) w1 (w3.mono (by omega)) y1 (y3.mono (by omega)) z2 (by omega) (by omega)
        simpa only [recU, roundR, ho, hd, Bool.false_eq_true, if_false] using this)
    rw [if_neg o1, if_neg o2, if_neg o3] at h ⊢
    rw [hk]
    exact h
  | @fold _ _ b f c db df dc h1 h2 h3 =>
    have s1 := sub h1 (u + 1) (by omega) (by omega)
    have k1 := okr h1 (u + 1) (by omega) (by omega)
    have s2 := fun h : (evM M n (u + 1) e b).2.2 = false => sub h2 (evM M n (u + 1) e b).2.1 (by have := k1.1; omega) k1.2.1
    have k2 := okr h2 (evM M n (u + 1) e b).2.1 (by have := k1.1; omega) k1.2.1
    have s3 := fun (h : (evM M n (u + 1) e b).2.2 = false) (h' : (evM M n (evM M n (u + 1) e b).2.1 e f).2.2 = false) => sub h3 (evM M n (evM M n (u + 1) e b).2.1 e f).2.1 (by have := k1.1; have := k2.1; omega) k2.2.1
    have k3 := okr h3 (evM M n (evM M n (u + 1) e b).2.1 e f).2.1 (by have := k1.1; have := k2.1; omega) k2.2.1
    rw [T.evStep_3 hM0 (by intro i h; cases h) (by intro s b h; cases h) rfl]
    revert s1 k1 s2 k2 s3 k3
    generalize evM M n (u + 1) e b = r1
    intro s1 k1 s2 k2
    revert s2 k2
    generalize evM M n r1.2.1 e f = r2
    intro s2 k2 s3 k3
    revert s3 k3
    generalize evM M n r2.2.1 e c = r3
    intro s3 k3
    have hqo : ∀ x t, (foldU (callV (evM M n)) r2.1 r1.1 r3.2.1 t).2.2 = true → foldU (callV (evM M n)) r2.1 r1.1 r3.2.1 (x :: t) = foldU (callV (evM M n)) r2.1 r1.1 r3.2.1 t := fun x t h => by simp only [foldU, roundF, if_pos h]
    by_cases o1 : r1.2.2 = true
    · have h := eval_fold (s := s) (l := []) (q := foldU (callV (evM M n)) r2.1 r1.1 r3.2.1) hlt hM s1 s2 s3 (fun h => by rw [o1] at h; cases h) rfl hqo (fun x t ⟨fr, hx⟩ => by simp at hx)
      rw [if_pos o1] at h ⊢
      exact h
    have o1' : r1.2.2 = false := by simpa using o1
    by_cases o2 : r2.2.2 = true
    · have h := eval_fold (s := s) (l := []) (q := foldU (callV (evM M n)) r2.1 r1.1 r3.2.1) hlt hM s1 s2 s3 (fun _ h => by rw [o2] at h; cases h) rfl hqo (fun x t ⟨fr, hx⟩ => by simp at hx)
      rw [if_neg o1, if_pos o2] at h ⊢
      exact h
    have o2' : r2.2.2 = false := by simpa using o2
    by_cases o3 : r3.2.2 = true
    · have h := eval_fold (s := s) (l := []) (q := foldU (callV (evM M n)) r2.1 r1.1 r3.2.1) hlt hM s1 s2 s3 (fun _ _ h => by rw [o3] at h; cases h) rfl hqo (fun x t ⟨fr, hx⟩ => by simp at hx)
      rw [if_neg o1, if_neg o2, if_pos o3] at h ⊢
      exact h
    have o3' : r3.2.2 = false := by simpa using o3
    obtain ⟨t1, m1, _, _, q1, b1⟩ := k1.2.2 o1'
    obtain ⟨t2, m2, _, _, q2, b2⟩ := k2.2.2 o2'
    obtain ⟨t3, m3, _, _, q3, b3⟩ := k3.2.2 o3'
    obtain ⟨l, hk⟩ := t3.inv_list
    rw [hk] at b3
    obtain ⟨hl3, hx3⟩ := b3.inv_list
    have hu3 := k3.2.1
    have h := eval_fold (s := s) (l := l) (q := foldU (callV (evM M n)) r2.1 r1.1 r3.2.1) hlt hM s1 s2 s3 (fun _ _ _ => ⟨hk, by omega⟩) rfl hqo (fun x t ⟨fr, hfr⟩ ho => by
      have htl : t.length + 1 ≤ C + m3 := by rw [hfr] at hl3; simp at hl3; omega
      have htx : ∀ y ∈ t, y ≤ C + m1 + m2 + m3 := fun y hy => by have := hx3 y (by rw [hfr]; simp [hy]); omega
      have hxx : x ≤ C + m1 + m2 + m3 := by have := hx3 x (by rw [hfr]; simp); omega
      have hr := fine.fold (C := C + m1 + m2 + m3) t2 (b2.mono (by omega)) t1 (b1.mono (by omega)) k3.2.1 (by omega) t (by omega) htx
      obtain ⟨x1, x2, x3⟩ := hr
      obtain ⟨y1, m4, _, _, y2, y3⟩ := x3 ho
      refine ⟨_, H.call (C := C + m1 + m2 + m3) t2 (b2.mono (by omega)) (.num x) (.num hxx) x2 (by omega) (by omega), ?_⟩
      split
      · rename_i hd
        simp only [foldU, roundF, ho, hd, Bool.false_eq_true, if_false, if_true]
      · rename_i hd
        obtain ⟨b', e', hf, z1, z2, z3⟩ := fine.call (C := C + m1 + m2 + m3) t2 (b2.mono (by omega)) (.num x) (.num hxx) x2 (by omega)
        obtain ⟨w1, m5, _, _, w2, w3⟩ := z3 (by simpa using hd)
        refine ⟨_, H.call (C := C + m1 + m2 + m3 + m5) w1 w3 (.list t) (.list (by omega) (fun y hy => by have := htx y hy; omega)) z2 (by omega) (by omega), ?_⟩
        split
        · rename_i hd2
          simp only [foldU, roundF, ho, hd, hd2, Bool.false_eq_true, if_false, if_true]
        · rename_i hd2
          obtain ⟨b'', e'', hf2, g1, g2, g3⟩ := fine.call (C := C + m1 + m2 + m3 + m5) w1 w3 (.list t) (.list (by omega) (fun y hy => by have := htx y hy; omega)) z2 (by omega)
          obtain ⟨w4, m6, _, _, w5, w6⟩ := g3 (by simpa using hd2)
          have := H.call (C := C + m1 + m2 + m3 + m4 + m5 + m6) w4 (w6.mono (by omega)) y1 (y3.mono (by omega)) g2 (by omega) (by omega)
          simpa only [foldU, roundF, ho, hd, hd2, Bool.false_eq_true, if_false] using this)
    rw [if_neg o1, if_neg o2, if_neg o3] at h ⊢
    rw [hk]
    exact h
theorem evalGd (M : Nat) (hM : M ≤ 1000000) : ∀ n, Gd E M n
  | 0 => fun C u e t g s d _ _ _ _ h _ => by omega
  | n + 1 => (evalGd M hM n).step hM
end M
end Go.Proofs.YthclcchnodjjpaaGreatDoor
