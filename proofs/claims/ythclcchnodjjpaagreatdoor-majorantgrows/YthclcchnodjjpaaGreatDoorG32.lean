/- A part of the proof: DkC, LwD. -/
import Derived.Test.YthclcchnodjjpaaGreatDoorG31
/- ref33: value, Value; law33.more. -/
set_option linter.unusedVariables false
set_option linter.unusedSimpArgs false
set_option maxRecDepth 10000
set_option maxHeartbeats 4000000
namespace Go.Proofs.YthclcchnodjjpaaGreatDoor
namespace M
attribute [local irreducible] Wp thenK blockK endK
variable {E : Oracle}
open T (V Ty Tm noTy Env Mon back)
attribute [local simp] noTy
theorem rvalue {s : Ty} {v : V} (h : VD s v) (hn : VN 1000000000 v) : den X E 73 [(V.rv v).enc] [] = some ((V.rv (V.bnd v)).enc, []) := by
  induction h with
  | num n =>
    simp only [V.bnd_num, V.rv_num]
    refine den_w0 (fn := Tryz.f73) (by rfl) (by rfl) (by kernel_rfl) rfl (by rfl) ?_
    simp -implicitDefEqProofs
    (repeat (first | refine Wp.seq ?_ | refine Wp.block ?_ | refine Wp.skip ?_ | refine Wp.exit ?_ | refine Wp.ret ?_ | refine thenK_n ?_ | refine thenK_r ?_ | refine thenK_e ?_ | refine blockK_n ?_ | refine blockK_r ?_ | refine blockK_e ?_ | refine blockK_o (by decide) ?_ | (refine Wp.condT ?_ ?_; focus (simp -implicitDefEqProofs <;> fail)) | (refine Wp.condF ?_ ?_; focus (simp -implicitDefEqProofs <;> fail)) | refine Wp.reg (by simp -implicitDefEqProofs; exact ⟨rfl, rfl⟩) ?_ | refine Wp.regA (by simp -implicitDefEqProofs; exact ⟨rfl, rfl⟩) (by rfl) ?_ | refine Wp.unroll ?_))
    (apply endK_r; (focus (simp -implicitDefEqProofs [Tryz.f73]; try rfl)); (focus (intro g; simp -implicitDefEqProofs [Tryz.f73])); exact ⟨_, rfl⟩)
  | unit =>
    simp only [V.bnd_unit, V.rv_unit]
    refine den_w0 (fn := Tryz.f73) (by rfl) (by rfl) (by kernel_rfl) rfl (by rfl) ?_
    simp -implicitDefEqProofs
    (repeat (first | refine Wp.seq ?_ | refine Wp.block ?_ | refine Wp.skip ?_ | refine Wp.exit ?_ | refine Wp.ret ?_ | refine thenK_n ?_ | refine thenK_r ?_ | refine thenK_e ?_ | refine blockK_n ?_ | refine blockK_r ?_ | refine blockK_e ?_ | refine blockK_o (by decide) ?_ | (refine Wp.condT ?_ ?_; focus (simp -implicitDefEqProofs <;> fail)) | (refine Wp.condF ?_ ?_; focus (simp -implicitDefEqProofs <;> fail)) | refine Wp.reg (by simp -implicitDefEqProofs; exact ⟨rfl, rfl⟩) ?_ | refine Wp.regA (by simp -implicitDefEqProofs; exact ⟨rfl, rfl⟩) (by rfl) ?_ | refine Wp.unroll ?_))
    (apply endK_r; (focus (simp -implicitDefEqProofs [Tryz.f73]; try rfl)); (focus (intro g; simp -implicitDefEqProofs [Tryz.f73])); exact ⟨_, rfl⟩)
  | list l =>
    cases hn with
    | list hl hx =>
    simp only [V.bnd_list, V.rv_list, V.rv_num]
    refine den_w0 (fn := Tryz.f73) (by rfl) (by rfl) (by kernel_rfl) rfl (by rfl) ?_
    simp -implicitDefEqProofs
    (repeat (first | refine Wp.seq ?_ | refine Wp.block ?_ | refine Wp.skip ?_ | refine Wp.exit ?_ | refine Wp.ret ?_ | refine thenK_n ?_ | refine thenK_r ?_ | refine thenK_e ?_ | refine blockK_n ?_ | refine blockK_r ?_ | refine blockK_e ?_ | refine blockK_o (by decide) ?_ | (refine Wp.condT ?_ ?_; focus (simp -implicitDefEqProofs <;> fail)) | (refine Wp.condF ?_ ?_; focus (simp -implicitDefEqProofs <;> fail)) | refine Wp.reg (by simp -implicitDefEqProofs; exact ⟨rfl, rfl⟩) ?_ | refine Wp.regA (by simp -implicitDefEqProofs; exact ⟨rfl, rfl⟩) (by rfl) ?_))
    refine Wp.loopF [3, 4, 13, 14, 15, 16, 17, 18, 19, 20, 21, 22, 23, 24, 25, 26] [] (fun n w c tk => ∃ done rest, l = done ++ rest ∧ n = rest.length ∧ w 4 = .int .i64 done.length ∧ w 3 = .int .i64 (maxL l.length done : Nat)) (l.length) ?_ ?_ ?_ ?_
    · rfl
    · rfl
    · exact ⟨[], l, by simp, rfl, rfl, rfl⟩
    rintro n w c junk tk r σ ⟨done, rest, hd, rfl, h4, h3⟩ hr hσ
    simp -implicitDefEqProofs [h4, h3] at hr hσ
    subst hr hσ
    rcases rest with _ | ⟨a, rest⟩
    · simp at hd
      rw [← hd] at *
      (repeat (first | refine Wp.seq ?_ | refine Wp.block ?_ | refine Wp.skip ?_ | refine Wp.exit ?_ | refine Wp.ret ?_ | refine thenK_n ?_ | refine thenK_r ?_ | refine thenK_e ?_ | refine blockK_n ?_ | refine blockK_r ?_ | refine blockK_e ?_ | refine blockK_o (by decide) ?_ | (refine Wp.condT ?_ ?_; focus (simp -implicitDefEqProofs <;> fail)) | (refine Wp.condF ?_ ?_; focus (simp -implicitDefEqProofs <;> fail)) | refine Wp.reg (by simp -implicitDefEqProofs; exact ⟨rfl, rfl⟩) ?_ | refine Wp.regA (by simp -implicitDefEqProofs; exact ⟨rfl, rfl⟩) (by rfl) ?_))
      (apply endK_r; (focus (simp -implicitDefEqProofs [Tryz.f73]; try rfl)); (focus (intro g; simp -implicitDefEqProofs [Tryz.f73])); exact ⟨_, rfl⟩)
    · have ha : el l done.length = some a := by simp [hd]
      have hlt : done.length < l.length := by simp [hd]
      have hw : IntKind.i64.wrap ((done.length : Int) + 1) = done.length + 1 := IntWalk.i64_in _ (by omega)
      (repeat (first | refine Wp.seq ?_ | refine Wp.block ?_ | refine Wp.skip ?_ | refine Wp.exit ?_ | refine Wp.ret ?_ | refine thenK_n ?_ | refine thenK_r ?_ | refine thenK_e ?_ | refine blockK_n ?_ | refine blockK_r ?_ | refine blockK_e ?_ | refine blockK_o (by decide) ?_ | (refine Wp.condT ?_ ?_; focus (simp -implicitDefEqProofs [ha, hlt, hw] <;> fail)) | (refine Wp.condF ?_ ?_; focus (simp -implicitDefEqProofs [ha, hlt, hw] <;> fail)) | refine Wp.reg (by simp -implicitDefEqProofs [ha, hlt, hw]; exact ⟨rfl, rfl⟩) ?_ | refine Wp.regA (by simp -implicitDefEqProofs [ha, hlt, hw]; exact ⟨rfl, rfl⟩) (by rfl) ?_))
      refine ⟨by simp, ⟨_, by simp -implicitDefEqProofs; rfl⟩, rest.length, by simp, done ++ [a], rest, by simp [hd], rfl, by simp, by simp; rw [maxL_snoc]; split <;> omega⟩
  | @pair s u a b h1 h2 ih1 ih2 =>
    cases hn with
    | pair hn1 hn2 =>
    have c1 : ∀ (g : Nat) (S : St) (o1 o2 : Own), callT (X.at g) (den X E) S 73 [.agg [.int .i64 (V.rv a).k, .int .i64 (V.rv a).n, .sl (List.map ic (V.rv a).l) o1, .sl (List.map RV.cells (V.rv a).as) o2]] = some (.agg [.int .i64 (V.rv (V.bnd a)).k, .int .i64 (V.rv (V.bnd a)).n, .sl (List.map ic (V.rv (V.bnd a)).l) .dead, .sl (List.map RV.cells (V.rv (V.bnd a)).as) .dead], S) := by
      intros
      simpa using call_up (cf := X.at _) (fn := Tryz.f73) (args' := [_]) (by kernel_rfl) (by simp) (by simp; try rfl) (by simpa using ih1 hn1) _
    have c2 : ∀ (g : Nat) (S : St) (o1 o2 : Own), callT (X.at g) (den X E) S 73 [.agg [.int .i64 (V.rv b).k, .int .i64 (V.rv b).n, .sl (List.map ic (V.rv b).l) o1, .sl (List.map RV.cells (V.rv b).as) o2]] = some (.agg [.int .i64 (V.rv (V.bnd b)).k, .int .i64 (V.rv (V.bnd b)).n, .sl (List.map ic (V.rv (V.bnd b)).l) .dead, .sl (List.map RV.cells (V.rv (V.bnd b)).as) .dead], S) := by
      intros
      simpa using call_up (cf := X.at _) (fn := Tryz.f73) (args' := [_]) (by kernel_rfl) (by simp) (by simp; try rfl) (by simpa using ih2 hn2) _
    have hw1 : IntKind.i64.wrap 1 = 1 := by decide
    have hw2 : IntKind.i64.wrap 2 = 2 := by decide
    simp only [V.bnd_pair, V.rv_pair]
    refine den_w0 (fn := Tryz.f73) (by rfl) (by rfl) (by kernel_rfl) rfl (by rfl) ?_
    simp -implicitDefEqProofs
    (repeat (first | refine Wp.seq ?_ | refine Wp.block ?_ | refine Wp.skip ?_ | refine Wp.exit ?_ | refine Wp.ret ?_ | refine thenK_n ?_ | refine thenK_r ?_ | refine thenK_e ?_ | refine blockK_n ?_ | refine blockK_r ?_ | refine blockK_e ?_ | refine blockK_o (by decide) ?_ | (refine Wp.condT ?_ ?_; focus (simp -implicitDefEqProofs [c1, c2, hw1, hw2] <;> fail)) | (refine Wp.condF ?_ ?_; focus (simp -implicitDefEqProofs [c1, c2, hw1, hw2] <;> fail)) | refine Wp.reg (by simp -implicitDefEqProofs [c1, c2, hw1, hw2]; exact ⟨rfl, rfl⟩) ?_ | refine Wp.regA (by simp -implicitDefEqProofs [c1, c2, hw1, hw2]; exact ⟨rfl, rfl⟩) (by rfl) ?_ | refine Wp.unroll ?_))
    (apply endK_r; (focus (simp -implicitDefEqProofs [Tryz.f73]; try rfl)); (focus (intro g; simp -implicitDefEqProofs [Tryz.f73])); exact ⟨_, rfl⟩)
theorem rvalue_c {s : Ty} {v : V} (h : VD s v) (hn : VN 1000000000 v) (g : Nat) (S : St) (o1 o2 : Own) : callT (X.at g) (den X E) S 73 [.agg [.int .i64 (V.rv v).k, .int .i64 (V.rv v).n, .sl (List.map ic (V.rv v).l) o1, .sl (List.map RV.cells (V.rv v).as) o2]] = some (.agg [.int .i64 (V.rv (V.bnd v)).k, .int .i64 (V.rv (V.bnd v)).n, .sl (List.map ic (V.rv (V.bnd v)).l) .dead, .sl (List.map RV.cells (V.rv (V.bnd v)).as) .dead], S) := by
  simpa using call_up (cf := X.at g) (fn := Tryz.f73) (args' := [.agg [.int .i64 (V.rv v).k, .int .i64 (V.rv v).n, .sl (List.map ic (V.rv v).l) o1, .sl (List.map RV.cells (V.rv v).as) o2]]) (by kernel_rfl) (by simp) (by simp; try rfl) (by simpa using rvalue (E := E) h hn) S
theorem rValue {s : Ty} {v : V} (h : VD s v) (hn : VN 1000000000 v) (hs : s.size ≤ 64) : den X E 23 [(V.rv v).enc] [] = some (.tup [(V.rv (V.bnd v)).enc, .int .i64 0], []) := by
  have c1 := check5_c (E := E) h hn hs
  have c2 := rvalue_c (E := E) h hn
  refine den_w0 (fn := Tryz.f23) (by rfl) (by rfl) (by kernel_rfl) rfl (by rfl) ?_
  simp -implicitDefEqProofs
  (repeat (first | refine Wp.seq ?_ | refine Wp.block ?_ | refine Wp.skip ?_ | refine Wp.exit ?_ | refine Wp.ret ?_ | refine thenK_n ?_ | refine thenK_r ?_ | refine thenK_e ?_ | refine blockK_n ?_ | refine blockK_r ?_ | refine blockK_e ?_ | refine blockK_o (by decide) ?_ | (refine Wp.condT ?_ ?_; focus (simp -implicitDefEqProofs [c1, c2] <;> fail)) | (refine Wp.condF ?_ ?_; focus (simp -implicitDefEqProofs [c1, c2] <;> fail)) | refine Wp.reg (by simp -implicitDefEqProofs [c1, c2]; exact ⟨rfl, rfl⟩) ?_ | refine Wp.regA (by simp -implicitDefEqProofs [c1, c2]; exact ⟨rfl, rfl⟩) (by rfl) ?_))
  (apply endK_r; (focus (simp -implicitDefEqProofs [Tryz.f23]; try rfl)); (focus (intro g; simp -implicitDefEqProofs [Tryz.f23])); exact ⟨_, rfl⟩)
theorem rValue_c {s : Ty} {v : V} (h : VD s v) (hn : VN 1000000000 v) (hs : s.size ≤ 64) (g : Nat) (S : St) (o1 o2 : Own) : callT (X.at g) (den X E) S 23 [.agg [.int .i64 (V.rv v).k, .int .i64 (V.rv v).n, .sl (List.map ic (V.rv v).l) o1, .sl (List.map RV.cells (V.rv v).as) o2]] = some (.tup [.agg [.int .i64 (V.rv (V.bnd v)).k, .int .i64 (V.rv (V.bnd v)).n, .sl (List.map ic (V.rv (V.bnd v)).l) .dead, .sl (List.map RV.cells (V.rv (V.bnd v)).as) .dead], .int .i64 0], S) := by
  simpa using call_up (cf := X.at g) (fn := Tryz.f23) (args' := [.agg [.int .i64 (V.rv v).k, .int .i64 (V.rv v).n, .sl (List.map ic (V.rv v).l) o1, .sl (List.map RV.cells (V.rv v).as) o2]]) (by kernel_rfl) (by simp) (by simp; try rfl) (by simpa using rValue (E := E) h hn hs) S
/-- A value at least as great. -/
def moreP (zs : List Int) : V → Nat → V × Nat
  | .num n, i => let p := nextP zs i 3; (.num (n + p.1.toNat), p.2)
  | .pair a b, i => let x := moreP zs a i; let y := moreP zs b x.2; (.pair x.1 y.1, y.2)
  | v, i => (v, i)
theorem moreP_num (zs : List Int) (n i : Nat) : moreP zs (.num n) i = (.num (n + (nextP zs i 3).1.toNat), (nextP zs i 3).2) := by simp only [moreP]
theorem moreP_unit (zs : List Int) (i : Nat) : moreP zs .unit i = (.unit, i) := by simp only [moreP]
theorem moreP_pair (zs : List Int) (a b : V) (i : Nat) : moreP zs (.pair a b) i = (.pair (moreP zs a i).1 (moreP zs b (moreP zs a i).2).1, (moreP zs b (moreP zs a i).2).2) := by simp only [moreP]
theorem moreP_ok (zs : List Int) {s : Ty} {v : V} (h : VD s v) (hb : s.bare = true) {C : Nat} (hn : VN C v) : ∀ i, i ≤ zs.length → (moreP zs v i).2 ≤ zs.length ∧ VD s (moreP zs v i).1 ∧ VN (C + 2) (moreP zs v i).1 ∧
    ∃ x y : s.den, v = back s x ∧ (moreP zs v i).1 = back s y ∧ Mon s y x := by
  induction h with
  | num n =>
    intro i hi
    rw [moreP_num]
    cases hn with
    | num hn =>
    have h := nextP_range zs i (n := 3) (by decide)
    exact ⟨nextP_le 3 hi, .num _, .num (by omega), (n : Nat), (n + (nextP zs i 3).1.toNat : Nat), rfl, rfl, Nat.le_add_right _ _⟩
  | list l => simp [Ty.bare] at hb
  | unit => intro i hi; rw [moreP_unit]; exact ⟨hi, .unit, .unit, (), (), rfl, rfl, trivial⟩
  | @pair s u a b h1 h2 ih1 ih2 =>
    intro i hi
    simp only [Ty.bare, Bool.and_eq_true] at hb
    cases hn with
    | pair hn1 hn2 =>
    obtain ⟨a1, a2, a3, x, y, a4, a5, a6⟩ := ih1 hb.1 hn1 i hi
    obtain ⟨b1, b2, b3, x', y', b4, b5, b6⟩ := ih2 hb.2 hn2 _ a1
    rw [moreP_pair]
    exact ⟨b1, .pair a2 b2, .pair a3 b3, (x, x'), (y, y'), by rw [a4, b4]; rfl, by simp only; rw [a5, b5]; rfl, a6, b6⟩
theorem more33 (zs : List Int) (hz : zs.length ≤ 1000000) {s : Ty} {v : V} (h : VD s v) (hb : s.bare = true) (hn : VN 1000000 v) : ∀ i, i ≤ zs.length →
    den X E 24 [.loc 0 0, (V.rv v).enc] [deck zs i] = some ((V.rv (moreP zs v i).1).enc, [deck zs (moreP zs v i).2]) := by
  have hw1 : IntKind.i64.wrap 1 = 1 := by decide
  have hw2 : IntKind.i64.wrap 2 = 2 := by decide
  induction h with
  | num n =>
    intro i hi
    cases hn with
    | num hn =>
    obtain ⟨p, i1, hp⟩ : ∃ p i1, nextP zs i 3 = (p, i1) := ⟨_, _, rfl⟩
    obtain ⟨h0, h6, hi1⟩ := nextP_eq hp (by decide) hi
    have c1 := fun g b S h => next_c (E := E) zs i 3 (by decide) (by decide) hi hz g b S h
    simp only [hp] at c1
    obtain ⟨q, rfl⟩ : ∃ q : Nat, p = q := ⟨p.toNat, by omega⟩
    have hwn : IntKind.i64.wrap ((n : Int) + q) = n + q := IntWalk.i64_in _ (by omega)
    rw [moreP_num, hp]
    simp only [deck_eq, V.rv_num, Int.toNat_natCast]
    refine den_w (fn := Tryz.f24) (σ1 := [[.sl (zs.map ic) .dead, .int .i64 i1]]) (by rfl) (by rfl) (by kernel_rfl) rfl (by rfl) (by rfl) (by simp -implicitDefEqProofs) ?_
    simp -implicitDefEqProofs
    (repeat (first | refine Wp.seq ?_ | refine Wp.block ?_ | refine Wp.skip ?_ | refine Wp.exit ?_ | refine Wp.ret ?_ | refine thenK_n ?_ | refine thenK_r ?_ | refine thenK_e ?_ | refine blockK_n ?_ | refine blockK_r ?_ | refine blockK_e ?_ | refine blockK_o (by decide) ?_ | (refine Wp.condT ?_ ?_; focus (simp -implicitDefEqProofs [c1, hwn] <;> fail)) | (refine Wp.condF ?_ ?_; focus (simp -implicitDefEqProofs [c1, hwn] <;> fail)) | refine Wp.reg (by simp -implicitDefEqProofs [c1, hwn]; exact ⟨rfl, rfl⟩) ?_ | refine Wp.regA (by simp -implicitDefEqProofs [c1, hwn]; exact ⟨rfl, rfl⟩) (by rfl) ?_ | refine Wp.unroll ?_))
    (apply endK_r; (focus (simp -implicitDefEqProofs [Tryz.f24]; try rfl)); (focus (intro g; simp -implicitDefEqProofs [Tryz.f24])); exact ⟨_, rfl⟩)
  | list l => simp [Ty.bare] at hb
  | unit =>
    intro i hi
    rw [moreP_unit]
    simp only [deck_eq, V.rv_unit]
    refine den_w (fn := Tryz.f24) (σ1 := [[.sl (zs.map ic) .dead, .int .i64 i]]) (by rfl) (by rfl) (by kernel_rfl) rfl (by rfl) (by rfl) (by simp -implicitDefEqProofs) ?_
    simp -implicitDefEqProofs
    (repeat (first | refine Wp.seq ?_ | refine Wp.block ?_ | refine Wp.skip ?_ | refine Wp.exit ?_ | refine Wp.ret ?_ | refine thenK_n ?_ | refine thenK_r ?_ | refine thenK_e ?_ | refine blockK_n ?_ | refine blockK_r ?_ | refine blockK_e ?_ | refine blockK_o (by decide) ?_ | (refine Wp.condT ?_ ?_; focus (simp -implicitDefEqProofs <;> fail)) | (refine Wp.condF ?_ ?_; focus (simp -implicitDefEqProofs <;> fail)) | refine Wp.reg (by simp -implicitDefEqProofs; exact ⟨rfl, rfl⟩) ?_ | refine Wp.regA (by simp -implicitDefEqProofs; exact ⟨rfl, rfl⟩) (by rfl) ?_ | refine Wp.unroll ?_))
    (apply endK_r; (focus (simp -implicitDefEqProofs [Tryz.f24]; try rfl)); (focus (intro g; simp -implicitDefEqProofs [Tryz.f24])); exact ⟨_, rfl⟩)
  | @pair s u a b h1 h2 ih1 ih2 =>
    intro i hi
    simp only [Ty.bare, Bool.and_eq_true] at hb
    cases hn with
    | pair hn1 hn2 =>
    have k1 := ih1 hb.1 hn1 i hi
    have hi1 := (moreP_ok zs h1 hb.1 hn1 i hi).1
    have k2 := ih2 hb.2 hn2 _ hi1
    rw [moreP_pair]
    revert k1 k2
    generalize moreP zs a i = x
    intro k1
    generalize moreP zs b x.2 = y
    intro k2
    simp only [deck_eq] at k1 k2
    have c1 : ∀ (g b : Nat) (S : St) (o1 o2 : Own), sd S.σ b = some [.sl (zs.map ic) .dead, .int .i64 i] → callT (X.at g) (den X E) S 24 [.loc b 0, .agg [.int .i64 (V.rv a).k, .int .i64 (V.rv a).n, .sl (List.map ic (V.rv a).l) o1, .sl (List.map RV.cells (V.rv a).as) o2]] = some (.agg [.int .i64 (V.rv x.1).k, .int .i64 (V.rv x.1).n, .sl (List.map ic (V.rv x.1).l) .dead, .sl (List.map RV.cells (V.rv x.1).as) .dead], { S with σ := S.σ.set b [.sl (zs.map ic) .dead, .int .i64 x.2] }) := by
      intros
      rename_i hS
      simpa using call_upD (cf := X.at _) (fn := Tryz.f24) (args' := [_]) (by kernel_rfl) rfl (by rfl) (by rfl) (by simp) (by simp; try rfl) (by simp) (by simp) (by simpa using k1) _ hS
    have c2 : ∀ (g b' : Nat) (S : St) (o1 o2 : Own), sd S.σ b' = some [.sl (zs.map ic) .dead, .int .i64 x.2] → callT (X.at g) (den X E) S 24 [.loc b' 0, .agg [.int .i64 (V.rv b).k, .int .i64 (V.rv b).n, .sl (List.map ic (V.rv b).l) o1, .sl (List.map RV.cells (V.rv b).as) o2]] = some (.agg [.int .i64 (V.rv y.1).k, .int .i64 (V.rv y.1).n, .sl (List.map ic (V.rv y.1).l) .dead, .sl (List.map RV.cells (V.rv y.1).as) .dead], { S with σ := S.σ.set b' [.sl (zs.map ic) .dead, .int .i64 y.2] }) := by
      intros
      rename_i hS
      simpa using call_upD (cf := X.at _) (fn := Tryz.f24) (args' := [_]) (by kernel_rfl) rfl (by rfl) (by rfl) (by simp) (by simp; try rfl) (by simp) (by simp) k2 _ hS
    simp only [V.rv_pair, deck_eq]
    refine den_w (fn := Tryz.f24) (σ1 := [[.sl (zs.map ic) .dead, .int .i64 y.2]]) (by rfl) (by rfl) (by kernel_rfl) rfl (by rfl) (by rfl) (by simp -implicitDefEqProofs) ?_
    simp -implicitDefEqProofs
    (repeat (first | refine Wp.seq ?_ | refine Wp.block ?_ | refine Wp.skip ?_ | refine Wp.exit ?_ | refine Wp.ret ?_ | refine thenK_n ?_ | refine thenK_r ?_ | refine thenK_e ?_ | refine blockK_n ?_ | refine blockK_r ?_ | refine blockK_e ?_ | refine blockK_o (by decide) ?_ | (refine Wp.condT ?_ ?_; focus (simp -implicitDefEqProofs [c1, c2, hw1, hw2] <;> fail)) | (refine Wp.condF ?_ ?_; focus (simp -implicitDefEqProofs [c1, c2, hw1, hw2] <;> fail)) | refine Wp.reg (by simp -implicitDefEqProofs [c1, c2, hw1, hw2]; exact ⟨rfl, rfl⟩) ?_ | refine Wp.regA (by simp -implicitDefEqProofs [c1, c2, hw1, hw2]; exact ⟨rfl, rfl⟩) (by rfl) ?_ | refine Wp.unroll ?_))
    (apply endK_r; (focus (simp -implicitDefEqProofs [Tryz.f24]; try rfl)); (focus (intro g; simp -implicitDefEqProofs [Tryz.f24])); exact ⟨_, rfl⟩)
theorem more33_c (zs : List Int) (hz : zs.length ≤ 1000000) {s : Ty} {v : V} (h : VD s v) (hb : s.bare = true) (hn : VN 1000000 v) (i : Nat) (hi : i ≤ zs.length) (g b : Nat) (S : St) (o1 o2 : Own) (hS : sd S.σ b = some [.sl (zs.map ic) .dead, .int .i64 i]) : callT (X.at g) (den X E) S 24 [.loc b 0, .agg [.int .i64 (V.rv v).k, .int .i64 (V.rv v).n, .sl (List.map ic (V.rv v).l) o1, .sl (List.map RV.cells (V.rv v).as) o2]] = some (.agg [.int .i64 (V.rv (moreP zs v i).1).k, .int .i64 (V.rv (moreP zs v i).1).n, .sl (List.map ic (V.rv (moreP zs v i).1).l) .dead, .sl (List.map RV.cells (V.rv (moreP zs v i).1).as) .dead], { S with σ := S.σ.set b [.sl (zs.map ic) .dead, .int .i64 (moreP zs v i).2] }) := by
  simpa using call_upD (cf := X.at g) (fn := Tryz.f24) (args' := [.agg [.int .i64 (V.rv v).k, .int .i64 (V.rv v).n, .sl (List.map ic (V.rv v).l) o1, .sl (List.map RV.cells (V.rv v).as) o2]]) (by kernel_rfl) rfl (by rfl) (by rfl) (by simp) (by simp; try rfl) (by simp) (by simp) (by simpa using more33 (E := E) zs hz h hb hn i hi) S hS

/-- A majorant grows. -/
theorem over_mon : ∀ (s : Ty) (a d : s.den), s.data = true → s.bare = true → Mon s a d → V.over (back s a) (back s d) = true
  | .nat, a, d, _, _, h => by simp only [back, V.over, decide_eq_true_eq]; exact h
  | .list, a, d, _, h, _ => by simp [Ty.bare] at h
  | .unit, a, d, _, _, _ => rfl
  | .pair s u, a, d, h, hb, hm => by
    simp only [Ty.data, Bool.and_eq_true] at h
    simp only [Ty.bare, Bool.and_eq_true] at hb
    simp only [back, V.over, Bool.and_eq_true]
    exact ⟨over_mon s _ _ h.1 hb.1 hm.1, over_mon u _ _ h.2 hb.2 hm.2⟩
  | .fn _ _, _, _, h, _, _ => by simp [Ty.data] at h
end M
end Go.Proofs.YthclcchnodjjpaaGreatDoor
/- law33.MajorantGrows. -/
set_option linter.unusedVariables false
set_option linter.unusedSimpArgs false
set_option maxRecDepth 10000
set_option maxHeartbeats 4000000
namespace Go.Proofs.YthclcchnodjjpaaGreatDoor
namespace M
attribute [local irreducible] Wp thenK blockK endK
variable {E : Oracle}
open T (V Ty Tm noTy Ans Res Env tyR resT resE VT VB)
attribute [local simp] noTy
theorem majorantGrows (zs : List Int) : den X E 5 [.sl (zs.map ic) .dead] [] = some (.bool true, []) := by
  by_cases hf : zs.length ≤ 500
  rotate_left
  · have c1 := few1_c (E := E) zs
    simp [hf] at c1
    refine den_w0 (fn := Tryz.f5) (by rfl) (by rfl) (by kernel_rfl) rfl (by rfl) ?_
    simp -implicitDefEqProofs
    (repeat (first | refine Wp.seq ?_ | refine Wp.block ?_ | refine Wp.skip ?_ | refine Wp.exit ?_ | refine Wp.ret ?_ | refine thenK_n ?_ | refine thenK_r ?_ | refine thenK_e ?_ | refine blockK_n ?_ | refine blockK_r ?_ | refine blockK_e ?_ | refine blockK_o (by decide) ?_ | (refine Wp.condT ?_ ?_; focus (simp -implicitDefEqProofs [awake33_c, c1] <;> fail)) | (refine Wp.condF ?_ ?_; focus (simp -implicitDefEqProofs [awake33_c, c1] <;> fail)) | refine Wp.reg (by simp -implicitDefEqProofs [awake33_c, c1]; exact ⟨rfl, rfl⟩) ?_ | refine Wp.regA (by simp -implicitDefEqProofs [awake33_c, c1]; exact ⟨rfl, rfl⟩) (by rfl) ?_))
    (apply endK_r; (focus (simp -implicitDefEqProofs [Tryz.f5]; try rfl)); (focus (intro g; simp -implicitDefEqProofs [Tryz.f5])); exact ⟨_, rfl⟩)
  have c1 := few1_c (E := E) zs
  simp [hf] at c1
  have c2 := new1_c (E := E) zs
  have hz : zs.length ≤ 1000000 := by omega
  have hw1 : IntKind.i64.wrap 1 = 1 := by decide
  have hw2 : IntKind.i64.wrap 2 = 2 := by decide
  have hpf := playFunction (E := E) zs hz 0 (Nat.zero_le _)
  have c3 := playFunction_c (E := E) zs hz 0 (Nat.zero_le _)
  obtain ⟨t, ins, j, hF⟩ : ∃ t ins j, funP zs 0 = (t, ins, j) := ⟨_, _, _, rfl⟩
  rw [hF] at hpf c3
  obtain ⟨_, hj, hts, htz, ⟨b, hb3, hb, hti⟩, hfn⟩ := hpf
  simp only at hj hts htz hti hfn c3
  have c5 := mjTermR_c (E := E) hb3 hb (by omega) hts hti
  rcases mjRes_or t with ⟨hm, ht4, hst⟩ | hm
  rotate_left
  · rw [hm] at c5
    simp at c3 c5
    refine den_w0 (fn := Tryz.f5) (by rfl) (by rfl) (by kernel_rfl) rfl (by rfl) ?_
    simp -implicitDefEqProofs
    (repeat (first | refine Wp.seq ?_ | refine Wp.block ?_ | refine Wp.skip ?_ | refine Wp.exit ?_ | refine Wp.ret ?_ | refine thenK_n ?_ | refine thenK_r ?_ | refine thenK_e ?_ | refine blockK_n ?_ | refine blockK_r ?_ | refine blockK_e ?_ | refine blockK_o (by decide) ?_ | (refine Wp.condT ?_ ?_; focus (simp -implicitDefEqProofs [awake33_c, c1, c2, c3, c5] <;> fail)) | (refine Wp.condF ?_ ?_; focus (simp -implicitDefEqProofs [awake33_c, c1, c2, c3, c5] <;> fail)) | refine Wp.reg (by simp -implicitDefEqProofs [awake33_c, c1, c2, c3, c5]; exact ⟨rfl, rfl⟩) ?_ | refine Wp.regA (by simp -implicitDefEqProofs [awake33_c, c1, c2, c3, c5]; exact ⟨rfl, rfl⟩) (by rfl) ?_))
    (apply endK_r; (focus (simp -implicitDefEqProofs [Tryz.f5]; try rfl)); (focus (intro g; simp -implicitDefEqProofs [Tryz.f5])); exact ⟨_, rfl⟩)
  rw [hm] at c5
  have hstar := hfn.star
  have hshape := hfn.shape
  -- the greater values
  obtain ⟨hi, hlen, hhi, hwalk⟩ : ∃ hi : List V, hi.length = (ins.map V.bnd).length ∧
      (∀ (i : Nat) (s : Ty) (a b : V), s.bare = true → (ins.map V.bnd)[i]? = some a → hi[i]? = some b → VD s a → VD s b ∧ VN 12 b ∧ ∃ x y : s.den, a = T.back s x ∧ b = T.back s y ∧ T.Mon s y x) ∧
      (∀ (x y : RV × Int × Int), (∀ (g : Nat) (S : St) (o1 o2 o3 : Own), callT (X.at g) (den X E) S 19 [.agg [.int .i64 t.star.raw.k, .int .i64 t.star.raw.i, .int .i64 t.star.raw.ty.k, .sl (List.map RT.cells t.star.raw.ty.as) o1, .sl (List.map RM.cells t.star.raw.as) o2], .sl ((ins.map V.bnd).map (RV.cells ∘ V.rv)) o3, .int .i64 40000] = some (.tup [.agg [.int .i64 x.1.k, .int .i64 x.1.n, .sl (List.map ic x.1.l) .dead, .sl (List.map RV.cells x.1.as) .dead], .int .i64 x.2.1, .int .i64 x.2.2], S)) →
        (∀ (g : Nat) (S : St) (o1 o2 o3 : Own), callT (X.at g) (den X E) S 19 [.agg [.int .i64 t.star.raw.k, .int .i64 t.star.raw.i, .int .i64 t.star.raw.ty.k, .sl (List.map RT.cells t.star.raw.ty.as) o1, .sl (List.map RM.cells t.star.raw.as) o2], .sl (hi.map (RV.cells ∘ V.rv)) o3, .int .i64 60000] = some (.tup [.agg [.int .i64 y.1.k, .int .i64 y.1.n, .sl (List.map ic y.1.l) .dead, .sl (List.map RV.cells y.1.as) .dead], .int .i64 y.2.1, .int .i64 y.2.2], S)) →
        (x.2.2 = 0 ∨ x.2.2 = 4 ∨ x.2.2 = 5) → (y.2.2 = 0 ∨ y.2.2 = 4 ∨ y.2.2 = 5) →
        (x.2.2 = 0 → y.2.2 = 0 → ∀ (g : Nat) (S : St) (o1 o2 o3 o4 : Own), callT (X.at g) (den X E) S 22 [.agg [.int .i64 y.1.k, .int .i64 y.1.n, .sl (y.1.l.map ic) o1, .sl (y.1.as.map RV.cells) o2], .agg [.int .i64 x.1.k, .int .i64 x.1.n, .sl (x.1.l.map ic) o3, .sl (x.1.as.map RV.cells) o4]] = some (.bool true, S)) →
        den X E 5 [.sl (zs.map ic) .dead] [] = some (.bool true, [])) := by
    rcases hshape with ⟨a, v, rfl, hv, hn, ha3⟩ | ⟨a, b', v, w, rfl, hv, hn, ha3, hw, hn2, hb4⟩
    · have m1 := fun (s : Ty) (h : VD s (V.bnd v)) (hs : s.bare = true) => moreP_ok zs h hs hn.bnd j hj
      have d1 := rValue_c (E := E) hv (hn.mono (by omega)) (by omega)
      have d2 := more33_c (E := E) zs hz hv.bnd (Ty.bare_star a) (hn.bnd.mono (by omega)) j hj
      revert m1 d2
      generalize moreP zs (V.bnd v) j = mv
      intro m1 d2
      refine ⟨[mv.1], rfl, ?_, ?_⟩
      · intro i s p q hs hp hq hpd
        have hi0 : i = 0 := by
          have := (List.getElem?_eq_some_iff.1 hq).1
          simp at this
          exact this
        subst hi0
        simp at hp hq
        subst hp hq
        exact (m1 s hpd hs).2
      · intro x y e1 e2 ex ey em
        have l1 := limits33_c (E := E) x.2.2
        have l2 := limits33_c (E := E) y.2.2
        simp at c3 c5 d2 e1 e2
        rcases ex with ex | ex | ex
        · rcases ey with ey | ey | ey
          · have c9 := em ex ey
            simp [ex] at e1 l1
            simp [ey] at e2 l2
            clear em
            refine den_w0 (fn := Tryz.f5) (by rfl) (by rfl) (by kernel_rfl) rfl (by rfl) ?_
            simp -implicitDefEqProofs
            (repeat (first | refine Wp.seq ?_ | refine Wp.block ?_ | refine Wp.skip ?_ | refine Wp.exit ?_ | refine Wp.ret ?_ | refine thenK_n ?_ | refine thenK_r ?_ | refine thenK_e ?_ | refine blockK_n ?_ | refine blockK_r ?_ | refine blockK_e ?_ | refine blockK_o (by decide) ?_ | (refine Wp.condT ?_ ?_; focus (simp -implicitDefEqProofs [awake33_c, c1, c2, c3, c5, d1, d2, e1, e2, c9, hw1, hw2] <;> fail)) | (refine Wp.condF ?_ ?_; focus (simp -implicitDefEqProofs [awake33_c, c1, c2, c3, c5, d1, d2, e1, e2, c9, hw1, hw2] <;> fail)) | refine Wp.reg (by simp -implicitDefEqProofs [awake33_c, c1, c2, c3, c5, d1, d2, e1, e2, c9, hw1, hw2]; exact ⟨rfl, rfl⟩) ?_ | refine Wp.regA (by simp -implicitDefEqProofs [awake33_c, c1, c2, c3, c5, d1, d2, e1, e2, c9, hw1, hw2]; exact ⟨rfl, rfl⟩) (by rfl) ?_ | refine Wp.unroll ?_))
            (apply endK_r; (focus (simp -implicitDefEqProofs [Tryz.f5]; try rfl)); (focus (intro g; simp -implicitDefEqProofs [Tryz.f5])); exact ⟨_, rfl⟩)
          · clear em
            simp [ex] at e1 l1
            simp [ey] at e2 l2
            refine den_w0 (fn := Tryz.f5) (by rfl) (by rfl) (by kernel_rfl) rfl (by rfl) ?_
            simp -implicitDefEqProofs
            (repeat (first | refine Wp.seq ?_ | refine Wp.block ?_ | refine Wp.skip ?_ | refine Wp.exit ?_ | refine Wp.ret ?_ | refine thenK_n ?_ | refine thenK_r ?_ | refine thenK_e ?_ | refine blockK_n ?_ | refine blockK_r ?_ | refine blockK_e ?_ | refine blockK_o (by decide) ?_ | (refine Wp.condT ?_ ?_; focus (simp -implicitDefEqProofs [awake33_c, c1, c2, c3, c5, d1, d2, e1, e2, l1, l2, hw1, hw2] <;> fail)) | (refine Wp.condF ?_ ?_; focus (simp -implicitDefEqProofs [awake33_c, c1, c2, c3, c5, d1, d2, e1, e2, l1, l2, hw1, hw2] <;> fail)) | refine Wp.reg (by simp -implicitDefEqProofs [awake33_c, c1, c2, c3, c5, d1, d2, e1, e2, l1, l2, hw1, hw2]; exact ⟨rfl, rfl⟩) ?_ | refine Wp.regA (by simp -implicitDefEqProofs [awake33_c, c1, c2, c3, c5, d1, d2, e1, e2, l1, l2, hw1, hw2]; exact ⟨rfl, rfl⟩) (by rfl) ?_ | refine Wp.unroll ?_))
            (apply endK_r; (focus (simp -implicitDefEqProofs [Tryz.f5]; try rfl)); (focus (intro g; simp -implicitDefEqProofs [Tryz.f5])); exact ⟨_, rfl⟩)
          · clear em
            simp [ex] at e1 l1
            simp [ey] at e2 l2
            refine den_w0 (fn := Tryz.f5) (by rfl) (by rfl) (by kernel_rfl) rfl (by rfl) ?_
            simp -implicitDefEqProofs
            (repeat (first | refine Wp.seq ?_ | refine Wp.block ?_ | refine Wp.skip ?_ | refine Wp.exit ?_ | refine Wp.ret ?_ | refine thenK_n ?_ | refine thenK_r ?_ | refine thenK_e ?_ | refine blockK_n ?_ | refine blockK_r ?_ | refine blockK_e ?_ | refine blockK_o (by decide) ?_ | (refine Wp.condT ?_ ?_; focus (simp -implicitDefEqProofs [awake33_c, c1, c2, c3, c5, d1, d2, e1, e2, l1, l2, hw1, hw2] <;> fail)) | (refine Wp.condF ?_ ?_; focus (simp -implicitDefEqProofs [awake33_c, c1, c2, c3, c5, d1, d2, e1, e2, l1, l2, hw1, hw2] <;> fail)) | refine Wp.reg (by simp -implicitDefEqProofs [awake33_c, c1, c2, c3, c5, d1, d2, e1, e2, l1, l2, hw1, hw2]; exact ⟨rfl, rfl⟩) ?_ | refine Wp.regA (by simp -implicitDefEqProofs [awake33_c, c1, c2, c3, c5, d1, d2, e1, e2, l1, l2, hw1, hw2]; exact ⟨rfl, rfl⟩) (by rfl) ?_ | refine Wp.unroll ?_))
            (apply endK_r; (focus (simp -implicitDefEqProofs [Tryz.f5]; try rfl)); (focus (intro g; simp -implicitDefEqProofs [Tryz.f5])); exact ⟨_, rfl⟩)
        · clear em
          simp [ex] at e1 l1
          refine den_w0 (fn := Tryz.f5) (by rfl) (by rfl) (by kernel_rfl) rfl (by rfl) ?_
          simp -implicitDefEqProofs
          (repeat (first | refine Wp.seq ?_ | refine Wp.block ?_ | refine Wp.skip ?_ | refine Wp.exit ?_ | refine Wp.ret ?_ | refine thenK_n ?_ | refine thenK_r ?_ | refine thenK_e ?_ | refine blockK_n ?_ | refine blockK_r ?_ | refine blockK_e ?_ | refine blockK_o (by decide) ?_ | (refine Wp.condT ?_ ?_; focus (simp -implicitDefEqProofs [awake33_c, c1, c2, c3, c5, d1, d2, e1, e2, l1, l2, hw1, hw2] <;> fail)) | (refine Wp.condF ?_ ?_; focus (simp -implicitDefEqProofs [awake33_c, c1, c2, c3, c5, d1, d2, e1, e2, l1, l2, hw1, hw2] <;> fail)) | refine Wp.reg (by simp -implicitDefEqProofs [awake33_c, c1, c2, c3, c5, d1, d2, e1, e2, l1, l2, hw1, hw2]; exact ⟨rfl, rfl⟩) ?_ | refine Wp.regA (by simp -implicitDefEqProofs [awake33_c, c1, c2, c3, c5, d1, d2, e1, e2, l1, l2, hw1, hw2]; exact ⟨rfl, rfl⟩) (by rfl) ?_ | refine Wp.unroll ?_))
          (apply endK_r; (focus (simp -implicitDefEqProofs [Tryz.f5]; try rfl)); (focus (intro g; simp -implicitDefEqProofs [Tryz.f5])); exact ⟨_, rfl⟩)
        · clear em
          simp [ex] at e1 l1
          refine den_w0 (fn := Tryz.f5) (by rfl) (by rfl) (by kernel_rfl) rfl (by rfl) ?_
          simp -implicitDefEqProofs
          (repeat (first | refine Wp.seq ?_ | refine Wp.block ?_ | refine Wp.skip ?_ | refine Wp.exit ?_ | refine Wp.ret ?_ | refine thenK_n ?_ | refine thenK_r ?_ | refine thenK_e ?_ | refine blockK_n ?_ | refine blockK_r ?_ | refine blockK_e ?_ | refine blockK_o (by decide) ?_ | (refine Wp.condT ?_ ?_; focus (simp -implicitDefEqProofs [awake33_c, c1, c2, c3, c5, d1, d2, e1, e2, l1, l2, hw1, hw2] <;> fail)) | (refine Wp.condF ?_ ?_; focus (simp -implicitDefEqProofs [awake33_c, c1, c2, c3, c5, d1, d2, e1, e2, l1, l2, hw1, hw2] <;> fail)) | refine Wp.reg (by simp -implicitDefEqProofs [awake33_c, c1, c2, c3, c5, d1, d2, e1, e2, l1, l2, hw1, hw2]; exact ⟨rfl, rfl⟩) ?_ | refine Wp.regA (by simp -implicitDefEqProofs [awake33_c, c1, c2, c3, c5, d1, d2, e1, e2, l1, l2, hw1, hw2]; exact ⟨rfl, rfl⟩) (by rfl) ?_ | refine Wp.unroll ?_))
          (apply endK_r; (focus (simp -implicitDefEqProofs [Tryz.f5]; try rfl)); (focus (intro g; simp -implicitDefEqProofs [Tryz.f5])); exact ⟨_, rfl⟩)
    · have m1 := fun (s : Ty) (h : VD s (V.bnd v)) (hs : s.bare = true) => moreP_ok zs h hs hn.bnd j hj
      have d1 := rValue_c (E := E) hv (hn.mono (by omega)) (by omega)
      have d2 := more33_c (E := E) zs hz hv.bnd (Ty.bare_star a) (hn.bnd.mono (by omega)) j hj
      have hj1 := (m1 _ hv.bnd (Ty.bare_star a)).1
      revert m1 d2 hj1
      generalize moreP zs (V.bnd v) j = mv
      intro m1 d2 hj1
      have m2 := fun (s : Ty) (h : VD s (V.bnd w)) (hs : s.bare = true) => moreP_ok zs h hs hn2.bnd mv.2 hj1
      have d3 := rValue_c (E := E) hw (hn2.mono (by omega)) (by omega)
      have d4 := more33_c (E := E) zs hz hw.bnd (Ty.bare_star b') (hn2.bnd.mono (by omega)) mv.2 hj1
      revert m2 d4
      generalize moreP zs (V.bnd w) mv.2 = mw
      intro m2 d4
      refine ⟨[mv.1, mw.1], rfl, ?_, ?_⟩
      · intro i s p q hs hp hq hpd
        have hi0 : i = 0 ∨ i = 1 := by
          have := (List.getElem?_eq_some_iff.1 hq).1
          simp at this
          omega
        rcases hi0 with rfl | rfl
        · simp at hp hq
          subst hp hq
          exact (m1 s hpd hs).2
        · simp at hp hq
          subst hp hq
          exact (m2 s hpd hs).2
      · intro x y e1 e2 ex ey em
        have l1 := limits33_c (E := E) x.2.2
        have l2 := limits33_c (E := E) y.2.2
        simp at c3 c5 d2 d4 e1 e2
        rcases ex with ex | ex | ex
        · rcases ey with ey | ey | ey
          · have c9 := em ex ey
            simp [ex] at e1 l1
            simp [ey] at e2 l2
            clear em
            refine den_w0 (fn := Tryz.f5) (by rfl) (by rfl) (by kernel_rfl) rfl (by rfl) ?_
            simp -implicitDefEqProofs
            (repeat (first | refine Wp.seq ?_ | refine Wp.block ?_ | refine Wp.skip ?_ | refine Wp.exit ?_ | refine Wp.ret ?_ | refine thenK_n ?_ | refine thenK_r ?_ | refine thenK_e ?_ | refine blockK_n ?_ | refine blockK_r ?_ | refine blockK_e ?_ | refine blockK_o (by decide) ?_ | (refine Wp.condT ?_ ?_; focus (simp -implicitDefEqProofs [awake33_c, c1, c2, c3, c5, d1, d2, d3, d4, e1, e2, c9, hw1, hw2] <;> fail)) | (refine Wp.condF ?_ ?_; focus (simp -implicitDefEqProofs [awake33_c, c1, c2, c3, c5, d1, d2, d3, d4, e1, e2, c9, hw1, hw2] <;> fail)) | refine Wp.reg (by simp -implicitDefEqProofs [awake33_c, c1, c2, c3, c5, d1, d2, d3, d4, e1, e2, c9, hw1, hw2]; exact ⟨rfl, rfl⟩) ?_ | refine Wp.regA (by simp -implicitDefEqProofs [awake33_c, c1, c2, c3, c5, d1, d2, d3, d4, e1, e2, c9, hw1, hw2]; exact ⟨rfl, rfl⟩) (by rfl) ?_ | refine Wp.unroll ?_))
            (apply endK_r; (focus (simp -implicitDefEqProofs [Tryz.f5]; try rfl)); (focus (intro g; simp -implicitDefEqProofs [Tryz.f5])); exact ⟨_, rfl⟩)
          · clear em
            simp [ex] at e1 l1
            simp [ey] at e2 l2
            refine den_w0 (fn := Tryz.f5) (by rfl) (by rfl) (by kernel_rfl) rfl (by rfl) ?_
            simp -implicitDefEqProofs
            (repeat (first | refine Wp.seq ?_ | refine Wp.block ?_ | refine Wp.skip ?_ | refine Wp.exit ?_ | refine Wp.ret ?_ | refine thenK_n ?_ | refine thenK_r ?_ | refine thenK_e ?_ | refine blockK_n ?_ | refine blockK_r ?_ | refine blockK_e ?_ | refine blockK_o (by decide) ?_ | (refine Wp.condT ?_ ?_; focus (simp -implicitDefEqProofs [awake33_c, c1, c2, c3, c5, d1, d2, d3, d4, e1, e2, l1, l2, hw1, hw2] <;> fail)) | (refine Wp.condF ?_ ?_; focus (simp -implicitDefEqProofs [awake33_c, c1, c2, c3, c5, d1, d2, d3, d4, e1, e2, l1, l2, hw1, hw2] <;> fail)) | refine Wp.reg (by simp -implicitDefEqProofs [awake33_c, c1, c2, c3, c5, d1, d2, d3, d4, e1, e2, l1, l2, hw1, hw2]; exact ⟨rfl, rfl⟩) ?_ | refine Wp.regA (by simp -implicitDefEqProofs [awake33_c, c1, c2, c3, c5, d1, d2, d3, d4, e1, e2, l1, l2, hw1, hw2]; exact ⟨rfl, rfl⟩) (by rfl) ?_ | refine Wp.unroll ?_))
            (apply endK_r; (focus (simp -implicitDefEqProofs [Tryz.f5]; try rfl)); (focus (intro g; simp -implicitDefEqProofs [Tryz.f5])); exact ⟨_, rfl⟩)
          · clear em
            simp [ex] at e1 l1
            simp [ey] at e2 l2
            refine den_w0 (fn := Tryz.f5) (by rfl) (by rfl) (by kernel_rfl) rfl (by rfl) ?_
            simp -implicitDefEqProofs
            (repeat (first | refine Wp.seq ?_ | refine Wp.block ?_ | refine Wp.skip ?_ | refine Wp.exit ?_ | refine Wp.ret ?_ | refine thenK_n ?_ | refine thenK_r ?_ | refine thenK_e ?_ | refine blockK_n ?_ | refine blockK_r ?_ | refine blockK_e ?_ | refine blockK_o (by decide) ?_ | (refine Wp.condT ?_ ?_; focus (simp -implicitDefEqProofs [awake33_c, c1, c2, c3, c5, d1, d2, d3, d4, e1, e2, l1, l2, hw1, hw2] <;> fail)) | (refine Wp.condF ?_ ?_; focus (simp -implicitDefEqProofs [awake33_c, c1, c2, c3, c5, d1, d2, d3, d4, e1, e2, l1, l2, hw1, hw2] <;> fail)) | refine Wp.reg (by simp -implicitDefEqProofs [awake33_c, c1, c2, c3, c5, d1, d2, d3, d4, e1, e2, l1, l2, hw1, hw2]; exact ⟨rfl, rfl⟩) ?_ | refine Wp.regA (by simp -implicitDefEqProofs [awake33_c, c1, c2, c3, c5, d1, d2, d3, d4, e1, e2, l1, l2, hw1, hw2]; exact ⟨rfl, rfl⟩) (by rfl) ?_ | refine Wp.unroll ?_))
            (apply endK_r; (focus (simp -implicitDefEqProofs [Tryz.f5]; try rfl)); (focus (intro g; simp -implicitDefEqProofs [Tryz.f5])); exact ⟨_, rfl⟩)
        · clear em
          simp [ex] at e1 l1
          refine den_w0 (fn := Tryz.f5) (by rfl) (by rfl) (by kernel_rfl) rfl (by rfl) ?_
          simp -implicitDefEqProofs
          (repeat (first | refine Wp.seq ?_ | refine Wp.block ?_ | refine Wp.skip ?_ | refine Wp.exit ?_ | refine Wp.ret ?_ | refine thenK_n ?_ | refine thenK_r ?_ | refine thenK_e ?_ | refine blockK_n ?_ | refine blockK_r ?_ | refine blockK_e ?_ | refine blockK_o (by decide) ?_ | (refine Wp.condT ?_ ?_; focus (simp -implicitDefEqProofs [awake33_c, c1, c2, c3, c5, d1, d2, d3, d4, e1, e2, l1, l2, hw1, hw2] <;> fail)) | (refine Wp.condF ?_ ?_; focus (simp -implicitDefEqProofs [awake33_c, c1, c2, c3, c5, d1, d2, d3, d4, e1, e2, l1, l2, hw1, hw2] <;> fail)) | refine Wp.reg (by simp -implicitDefEqProofs [awake33_c, c1, c2, c3, c5, d1, d2, d3, d4, e1, e2, l1, l2, hw1, hw2]; exact ⟨rfl, rfl⟩) ?_ | refine Wp.regA (by simp -implicitDefEqProofs [awake33_c, c1, c2, c3, c5, d1, d2, d3, d4, e1, e2, l1, l2, hw1, hw2]; exact ⟨rfl, rfl⟩) (by rfl) ?_ | refine Wp.unroll ?_))
          (apply endK_r; (focus (simp -implicitDefEqProofs [Tryz.f5]; try rfl)); (focus (intro g; simp -implicitDefEqProofs [Tryz.f5])); exact ⟨_, rfl⟩)
        · clear em
          simp [ex] at e1 l1
          refine den_w0 (fn := Tryz.f5) (by rfl) (by rfl) (by kernel_rfl) rfl (by rfl) ?_
          simp -implicitDefEqProofs
          (repeat (first | refine Wp.seq ?_ | refine Wp.block ?_ | refine Wp.skip ?_ | refine Wp.exit ?_ | refine Wp.ret ?_ | refine thenK_n ?_ | refine thenK_r ?_ | refine thenK_e ?_ | refine blockK_n ?_ | refine blockK_r ?_ | refine blockK_e ?_ | refine blockK_o (by decide) ?_ | (refine Wp.condT ?_ ?_; focus (simp -implicitDefEqProofs [awake33_c, c1, c2, c3, c5, d1, d2, d3, d4, e1, e2, l1, l2, hw1, hw2] <;> fail)) | (refine Wp.condF ?_ ?_; focus (simp -implicitDefEqProofs [awake33_c, c1, c2, c3, c5, d1, d2, d3, d4, e1, e2, l1, l2, hw1, hw2] <;> fail)) | refine Wp.reg (by simp -implicitDefEqProofs [awake33_c, c1, c2, c3, c5, d1, d2, d3, d4, e1, e2, l1, l2, hw1, hw2]; exact ⟨rfl, rfl⟩) ?_ | refine Wp.regA (by simp -implicitDefEqProofs [awake33_c, c1, c2, c3, c5, d1, d2, d3, d4, e1, e2, l1, l2, hw1, hw2]; exact ⟨rfl, rfl⟩) (by rfl) ?_ | refine Wp.unroll ?_))
          (apply endK_r; (focus (simp -implicitDefEqProofs [Tryz.f5]; try rfl)); (focus (intro g; simp -implicitDefEqProofs [Tryz.f5])); exact ⟨_, rfl⟩)
  obtain ⟨hFn, hgr⟩ := run_grows hfn (M := 40000) (N := 60000) rfl hlen hhi (by decide)
  have c7 := rcallF_c (E := E) (M := 40000) hstar (by decide) (T.Tm.star_small t hts) (by omega) (by decide)
  have c8 := rcallF_c (E := E) (M := 60000) hFn (by decide) (T.Tm.star_small t hts) (by omega) (by decide)
  obtain ⟨sS, dS, hsemS⟩ := hstar.sem
  have k1 := callRes_cases hsemS (runN 40000 t.star (ins.map V.bnd))
  have k2 := callRes_cases hsemS (runN 60000 t.star hi)
  refine hwalk (callRes (tyC t.star) (runN 40000 t.star (ins.map V.bnd))) (callRes (tyC t.star) (runN 60000 t.star hi)) c7 c8 ?_ ?_ ?_
  · rcases k1 with ⟨h, _⟩ | h | h <;> rw [h] <;> simp
  · rcases k2 with ⟨h, _⟩ | h | h <;> rw [h] <;> simp
  · intro hx hy
    rcases k1 with ⟨h, o1⟩ | h | h
    rotate_left
    · rw [h] at hx; simp at hx
    · rw [h] at hx; simp at hx
    rcases k2 with ⟨h', o2⟩ | h' | h'
    rotate_left
    · rw [h'] at hy; simp at hy
    · rw [h'] at hy; simp at hy
    rw [h, h']
    obtain ⟨r, hr3, hrb, p1, p2, q1, q2, x, y, hx', hy', hxy⟩ := hgr o1 o2
    have hst' : r.star = r := Ty.star_bare r hrb
    have ho : V.over (runN 60000 t.star hi).1 (runN 40000 t.star (ins.map V.bnd)).1 = true := by rw [hx', hy']; exact over_mon r _ _ p1.data hrb hxy
    have c9 := majorizes_c (E := E) (s := r) p1 (p2.mono (by omega)) (by rw [hst']; exact q1) (q2.mono (by omega)) (by omega)
    rw [ho] at c9
    exact fun g S o1 o2 o3 o4 => c9 g S o1 o2 o3 o4
end M
end Go.Proofs.YthclcchnodjjpaaGreatDoor
