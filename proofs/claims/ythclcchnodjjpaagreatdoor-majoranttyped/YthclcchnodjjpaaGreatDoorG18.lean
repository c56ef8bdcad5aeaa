/- A part of the proof: Vr, VaA, VaB, RsI. -/
import Derived.Test.YthclcchnodjjpaaGreatDoorG16
import Derived.Test.YthclcchnodjjpaaGreatDoorG08
import Derived.Test.YthclcchnodjjpaaGreatDoorG09
import Derived.Test.YthclcchnodjjpaaGreatDoorG14
import Derived.Test.YthclcchnodjjpaaGreatDoorG02
/- PLAIN VALUES: as raw ones; their types, their bounds. -/
set_option linter.unusedVariables false
set_option linter.unusedSimpArgs false
namespace Go.Proofs.YthclcchnodjjpaaGreatDoor
namespace M
open T (V Ty Tm noTy VT VB back Maj)
/-- A plain value. -/
def V.rv : V → RV
  | .num n => .mk 1 n [] []
  | .list l => .mk 2 0 (l.map Int.ofNat) []
  | .pair a b => .mk 3 0 [] [V.rv a, V.rv b]
  | .unit => .mk 4 0 [] []
  | .clo _ _ => .mk 0 0 [] []
@[simp] theorem V.rv_num (n : Nat) : V.rv (.num n) = .mk 1 n [] [] := by simp only [V.rv]
@[simp] theorem V.rv_list (l : List Nat) : V.rv (.list l) = .mk 2 0 (l.map Int.ofNat) [] := by simp only [V.rv]
@[simp] theorem V.rv_pair (a b : V) : V.rv (.pair a b) = .mk 3 0 [] [V.rv a, V.rv b] := by simp only [V.rv]
@[simp] theorem V.rv_unit : V.rv .unit = .mk 4 0 [] [] := by simp only [V.rv]
/-- A value without functions, in a data type. -/
inductive VD : Ty → V → Prop where
  | num (n : Nat) : VD .nat (.num n)
  | list (l : List Nat) : VD .list (.list l)
  | unit : VD .unit .unit
  | pair {s u : Ty} {a b : V} : VD s a → VD u b → VD (.pair s u) (.pair a b)
theorem VD.vt {s : Ty} {v : V} (h : VD s v) : VT s v := by
  induction h with
  | num n => exact .num n
  | list l => exact .list l
  | unit => exact .unit
  | pair _ _ ih1 ih2 => exact .pair ih1 ih2
theorem VD.data {s : Ty} {v : V} (h : VD s v) : s.data = true := by
  induction h with
  | pair _ _ ih1 ih2 => simp [Ty.data, ih1, ih2]
  | _ => rfl
theorem VT.vd : ∀ {s : Ty} {v : V}, VT s v → s.data = true → VD s v := by
  intro s
  induction s with
  | nat => intro v h _; cases h; exact .num _
  | list => intro v h _; cases h; exact .list _
  | unit => intro v h _; cases h; exact .unit
  | pair s u ih1 ih2 =>
    intro v h hd
    simp only [Ty.data, Bool.and_eq_true] at hd
    cases h with
    | pair h1 h2 => exact .pair (ih1 h1 hd.1) (ih2 h2 hd.2)
  | fn s u _ _ => intro v h hd; simp [Ty.data] at hd
/-- The greatest number of a list, at least its length. -/
def maxL (k : Nat) : List Nat → Nat
  | [] => k
  | x :: l => maxL (max k x) l
theorem maxL_le {k b : Nat} : ∀ {l : List Nat}, k ≤ b → (∀ x ∈ l, x ≤ b) → maxL k l ≤ b
  | [], h, _ => h
  | x :: l, h, hx => maxL_le (l := l) (by have := hx x (by simp); omega) (fun y hy => hx y (by simp [hy]))
theorem le_maxL : ∀ {k : Nat} (l : List Nat), k ≤ maxL k l
  | k, [] => Nat.le_refl _
  | k, x :: l => by have := le_maxL (k := max k x) l; simp only [maxL]; omega
theorem mem_maxL : ∀ {k : Nat} {l : List Nat} {x : Nat}, x ∈ l → x ≤ maxL k l
  | k, y :: l, x, h => by
    simp only [maxL]
    rcases List.mem_cons.1 h with rfl | h
    · have := le_maxL (k := max k x) l; omega
    · exact mem_maxL h
/-- The least bound of a value. -/
def V.bnd : V → V
  | .list l => .num (maxL l.length l)
  | .pair a b => .pair (V.bnd a) (V.bnd b)
  | v => v
theorem V.bnd_num (n : Nat) : V.bnd (.num n) = .num n := by simp only [V.bnd]
theorem V.bnd_unit : V.bnd .unit = .unit := by simp only [V.bnd]
theorem V.bnd_list (l : List Nat) : V.bnd (.list l) = .num (maxL l.length l) := by simp only [V.bnd]
theorem V.bnd_pair (a b : V) : V.bnd (.pair a b) = .pair (V.bnd a) (V.bnd b) := by simp only [V.bnd]
theorem VD.bnd {s : Ty} {v : V} (h : VD s v) : VD s.star (V.bnd v) := by
  induction h with
  | num n => rw [V.bnd_num]; exact .num n
  | list l => rw [V.bnd_list]; exact .num _
  | unit => rw [V.bnd_unit]; exact .unit
  | pair _ _ ih1 ih2 => rw [V.bnd_pair]; exact .pair ih1 ih2
/-- One value bounds another one. -/
def V.over : V → V → Bool
  | .num a, .num b => decide (b ≤ a)
  | .num a, .list l => decide (maxL l.length l ≤ a)
  | .pair a b, .pair c d => V.over a c && V.over b d
  | .unit, .unit => true
  | _, _ => false
/-- Numbers of a value are small. -/
inductive VN (C : Nat) : V → Prop where
  | num {n : Nat} : n ≤ C → VN C (.num n)
  | list {l : List Nat} : l.length ≤ C → (∀ x ∈ l, x ≤ C) → VN C (.list l)
  | unit : VN C .unit
  | pair {a b : V} : VN C a → VN C b → VN C (.pair a b)
theorem VB.vn {C : Nat} {s : Ty} {v : V} (h : VD s v) (hb : VB C v) : VN C v := by
  induction h with
  | num n => cases hb; exact .num (by assumption)
  | list l => cases hb; exact .list (by assumption) (by assumption)
  | unit => exact .unit
  | pair _ _ ih1 ih2 => cases hb with | pair h1 h2 => exact .pair (ih1 h1) (ih2 h2)
theorem VN.vb {C : Nat} {v : V} (h : VN C v) : VB C v := by
  induction h with
  | num h => exact .num h
  | list h1 h2 => exact .list h1 h2
  | unit => exact .unit
  | pair _ _ ih1 ih2 => exact .pair ih1 ih2
theorem VN.mono {C D : Nat} (h : C ≤ D) {v : V} (hv : VN C v) : VN D v := by
  induction hv with
  | num h1 => exact .num (by omega)
  | list h1 h2 => exact .list (by omega) (fun x hx => by have := h2 x hx; omega)
  | unit => exact .unit
  | pair _ _ ih1 ih2 => exact .pair ih1 ih2
theorem VN.bnd {C : Nat} {v : V} (h : VN C v) : VN C (V.bnd v) := by
  induction h with
  | num h => rw [V.bnd_num]; exact .num h
  | list h1 h2 => rw [V.bnd_list]; exact .num (maxL_le h1 h2)
  | unit => rw [V.bnd_unit]; exact .unit
  | pair _ _ ih1 ih2 => rw [V.bnd_pair]; exact .pair ih1 ih2

/-! ### What the meanings say of it -/
theorem back_vd : ∀ (s : Ty) (d : s.den), s.data = true → VD s (back s d)
  | .nat, d, _ => .num d
  | .list, d, _ => .list d
  | .unit, _, _ => .unit
  | .pair s u, d, h => by simp only [Ty.data, Bool.and_eq_true] at h; exact .pair (back_vd s _ h.1) (back_vd u _ h.2)
  | .fn _ _, _, h => by simp [Ty.data] at h
theorem vd_back {s : Ty} {v : V} (h : VD s v) : ∃ d : s.den, v = back s d := by
  induction h with
  | num n => exact ⟨(n : Nat), rfl⟩
  | list l => exact ⟨(l : List Nat), rfl⟩
  | unit => exact ⟨(), rfl⟩
  | pair _ _ ih1 ih2 =>
    obtain ⟨d1, rfl⟩ := ih1
    obtain ⟨d2, rfl⟩ := ih2
    exact ⟨(d1, d2), rfl⟩
theorem over_list (a : Nat) (d : List Nat) : V.over (.num a) (.list d) = true ↔ (d.length ≤ a ∧ ∀ x ∈ d, x ≤ a) := by
  simp only [V.over, decide_eq_true_eq]
  constructor
  · intro h
    exact ⟨Nat.le_trans (le_maxL _) h, fun x hx => Nat.le_trans (mem_maxL hx) h⟩
  · rintro ⟨h1, h2⟩
    exact maxL_le h1 h2
theorem over_maj : ∀ (s : Ty) (a : s.star.den) (d : s.den), s.data = true → (V.over (back s.star a) (back s d) = true ↔ Maj s a d)
  | .nat, a, d, _ => by simp [back, V.over, Maj, Ty.star]
  | .list, a, d, _ => over_list a d
  | .unit, a, d, _ => by simp [back, V.over, Maj, Ty.star]
  | .pair s u, a, d, h => by
    simp only [Ty.data, Bool.and_eq_true] at h
    simp only [Ty.star, back, V.over, Maj, Bool.and_eq_true]
    rw [over_maj s a.1 d.1 h.1, over_maj u a.2 d.2 h.2]
  | .fn _ _, _, _, h => by simp [Ty.data] at h
theorem bnd_maj : ∀ (s : Ty) (d : s.den), s.data = true → ∃ a : s.star.den, V.bnd (back s d) = back s.star a ∧ Maj s a d
  | .nat, d, _ => ⟨d, V.bnd_num _, Nat.le_refl _⟩
  | .list, d, _ => ⟨(maxL (List.length d) d : Nat), V.bnd_list _, le_maxL _, fun x hx => mem_maxL hx⟩
  | .unit, d, _ => ⟨(), V.bnd_unit, trivial⟩
  | .pair s u, d, h => by
    simp only [Ty.data, Bool.and_eq_true] at h
    obtain ⟨a, h1, h2⟩ := bnd_maj s d.1 h.1
    obtain ⟨b, h3, h4⟩ := bnd_maj u d.2 h.2
    exact ⟨(a, b), by simp only [back, V.bnd_pair, h1, h3, Ty.star], h2, h4⟩
  | .fn _ _, _, h => by simp [Ty.data] at h
end M
end Go.Proofs.YthclcchnodjjpaaGreatDoor
/- ref05: shape, nodes, Check, typed, TypeOf; ref33: value, Value; ref06: of, plain; on plain values. -/
set_option linter.unusedVariables false
set_option linter.unusedSimpArgs false
set_option maxRecDepth 10000
set_option maxHeartbeats 4000000
namespace Go.Proofs.YthclcchnodjjpaaGreatDoor
namespace M
attribute [local irreducible] Wp thenK blockK endK
variable {E : Oracle}
open T (V Ty Tm noTy VT VB)
attribute [local simp] noTy
theorem shape5 {s : Ty} {v : V} (h : VD s v) (hn : VN 1000000000 v) : den X E 104 [(V.rv v).enc] [] = some (.bool true, []) := by
  induction h with
  | num n =>
    have h0 : (0 : Int) ≤ n := by omega
    simp only [V.rv_num]
    refine den_w0 (fn := Tryz.f104) (by rfl) (by rfl) (by kernel_rfl) rfl (by rfl) ?_
    simp -implicitDefEqProofs
    (repeat (first | refine Wp.seq ?_ | refine Wp.block ?_ | refine Wp.skip ?_ | refine Wp.exit ?_ | refine Wp.ret ?_ | refine thenK_n ?_ | refine thenK_r ?_ | refine thenK_e ?_ | refine blockK_n ?_ | refine blockK_r ?_ | refine blockK_e ?_ | refine blockK_o (by decide) ?_ | (refine Wp.condT ?_ ?_; focus (simp -implicitDefEqProofs [h0] <;> fail)) | (refine Wp.condF ?_ ?_; focus (simp -implicitDefEqProofs [h0] <;> fail)) | refine Wp.reg (by simp -implicitDefEqProofs [h0]; exact ⟨rfl, rfl⟩) ?_ | refine Wp.regA (by simp -implicitDefEqProofs [h0]; exact ⟨rfl, rfl⟩) (by rfl) ?_))
    (apply endK_r; (focus (simp -implicitDefEqProofs [Tryz.f104]; try rfl)); (focus (intro g; simp -implicitDefEqProofs [Tryz.f104])); exact ⟨_, rfl⟩)
  | unit =>
    simp only [V.rv_unit]
    refine den_w0 (fn := Tryz.f104) (by rfl) (by rfl) (by kernel_rfl) rfl (by rfl) ?_
    simp -implicitDefEqProofs
    (repeat (first | refine Wp.seq ?_ | refine Wp.block ?_ | refine Wp.skip ?_ | refine Wp.exit ?_ | refine Wp.ret ?_ | refine thenK_n ?_ | refine thenK_r ?_ | refine thenK_e ?_ | refine blockK_n ?_ | refine blockK_r ?_ | refine blockK_e ?_ | refine blockK_o (by decide) ?_ | (refine Wp.condT ?_ ?_; focus (simp -implicitDefEqProofs <;> fail)) | (refine Wp.condF ?_ ?_; focus (simp -implicitDefEqProofs <;> fail)) | refine Wp.reg (by simp -implicitDefEqProofs; exact ⟨rfl, rfl⟩) ?_ | refine Wp.regA (by simp -implicitDefEqProofs; exact ⟨rfl, rfl⟩) (by rfl) ?_))
    (apply endK_r; (focus (simp -implicitDefEqProofs [Tryz.f104]; try rfl)); (focus (intro g; simp -implicitDefEqProofs [Tryz.f104])); exact ⟨_, rfl⟩)
  | list l =>
    cases hn with
    | list hl hx =>
    simp only [V.rv_list]
    refine den_w0 (fn := Tryz.f104) (by rfl) (by rfl) (by kernel_rfl) rfl (by rfl) ?_
    simp -implicitDefEqProofs
    (repeat (first | refine Wp.seq ?_ | refine Wp.block ?_ | refine Wp.skip ?_ | refine Wp.exit ?_ | refine Wp.ret ?_ | refine thenK_n ?_ | refine thenK_r ?_ | refine thenK_e ?_ | refine blockK_n ?_ | refine blockK_r ?_ | refine blockK_e ?_ | refine blockK_o (by decide) ?_ | (refine Wp.condT ?_ ?_; focus (simp -implicitDefEqProofs <;> fail)) | (refine Wp.condF ?_ ?_; focus (simp -implicitDefEqProofs <;> fail)) | refine Wp.reg (by simp -implicitDefEqProofs; exact ⟨rfl, rfl⟩) ?_ | refine Wp.regA (by simp -implicitDefEqProofs; exact ⟨rfl, rfl⟩) (by rfl) ?_))
    refine Wp.loopF [2, 4, 29, 30, 31, 32, 33, 34, 35] [] (fun n w c tk => ∃ done rest, l = done ++ rest ∧ n = rest.length ∧ w 29 = .int .i64 done.length) (l.length) ?_ ?_ ?_ ?_
    · rfl
    · rfl
    · exact ⟨[], l, by simp, rfl, rfl⟩
    rintro n w c junk tk r σ ⟨done, rest, hd, rfl, h29⟩ hr hσ
    simp -implicitDefEqProofs [h29] at hr hσ
    subst hr hσ
    rcases rest with _ | ⟨a, rest⟩
    · simp at hd
      subst hd
      (repeat (first | refine Wp.seq ?_ | refine Wp.block ?_ | refine Wp.skip ?_ | refine Wp.exit ?_ | refine Wp.ret ?_ | refine thenK_n ?_ | refine thenK_r ?_ | refine thenK_e ?_ | refine blockK_n ?_ | refine blockK_r ?_ | refine blockK_e ?_ | refine blockK_o (by decide) ?_ | (refine Wp.condT ?_ ?_; focus (simp -implicitDefEqProofs <;> fail)) | (refine Wp.condF ?_ ?_; focus (simp -implicitDefEqProofs <;> fail)) | refine Wp.reg (by simp -implicitDefEqProofs; exact ⟨rfl, rfl⟩) ?_ | refine Wp.regA (by simp -implicitDefEqProofs; exact ⟨rfl, rfl⟩) (by rfl) ?_))
      (apply endK_r; (focus (simp -implicitDefEqProofs [Tryz.f104]; try rfl)); (focus (intro g; simp -implicitDefEqProofs [Tryz.f104])); exact ⟨_, rfl⟩)
    · have ha : el l done.length = some a := by simp [hd]
      have hlt : done.length < l.length := by simp [hd]
      have hw : IntKind.i64.wrap ((done.length : Int) + 1) = done.length + 1 := IntWalk.i64_in _ (by omega)
      have h0 : ¬ (a : Int) < 0 := by omega
      (repeat (first | refine Wp.seq ?_ | refine Wp.block ?_ | refine Wp.skip ?_ | refine Wp.exit ?_ | refine Wp.ret ?_ | refine thenK_n ?_ | refine thenK_r ?_ | refine thenK_e ?_ | refine blockK_n ?_ | refine blockK_r ?_ | refine blockK_e ?_ | refine blockK_o (by decide) ?_ | (refine Wp.condT ?_ ?_; focus (simp -implicitDefEqProofs [ha, hlt, hw, h0] <;> fail)) | (refine Wp.condF ?_ ?_; focus (simp -implicitDefEqProofs [ha, hlt, hw, h0] <;> fail)) | refine Wp.reg (by simp -implicitDefEqProofs [ha, hlt, hw, h0]; exact ⟨rfl, rfl⟩) ?_ | refine Wp.regA (by simp -implicitDefEqProofs [ha, hlt, hw, h0]; exact ⟨rfl, rfl⟩) (by rfl) ?_))
      refine ⟨by simp, ⟨_, by simp -implicitDefEqProofs; rfl⟩, rest.length, by simp, done ++ [a], rest, by simp [hd], rfl, by simp⟩
  | @pair s u a b h1 h2 ih1 ih2 =>
    cases hn with
    | pair hn1 hn2 =>
    have c1 : ∀ (g : Nat) (S : St) (o1 o2 : Own), callT (X.at g) (den X E) S 104 [.agg [.int .i64 (V.rv a).k, .int .i64 (V.rv a).n, .sl (List.map ic (V.rv a).l) o1, .sl (List.map RV.cells (V.rv a).as) o2]] = some (.bool true, S) := by
      intros
      simpa using call_up (cf := X.at _) (fn := Tryz.f104) (args' := [_]) (by kernel_rfl) (by simp) (by simp; try rfl) (by simpa using ih1 hn1) _
    have c2 : ∀ (g : Nat) (S : St) (o1 o2 : Own), callT (X.at g) (den X E) S 104 [.agg [.int .i64 (V.rv b).k, .int .i64 (V.rv b).n, .sl (List.map ic (V.rv b).l) o1, .sl (List.map RV.cells (V.rv b).as) o2]] = some (.bool true, S) := by
      intros
      simpa using call_up (cf := X.at _) (fn := Tryz.f104) (args' := [_]) (by kernel_rfl) (by simp) (by simp; try rfl) (by simpa using ih2 hn2) _
    simp only [V.rv_pair]
    refine den_w0 (fn := Tryz.f104) (by rfl) (by rfl) (by kernel_rfl) rfl (by rfl) ?_
    simp -implicitDefEqProofs
    (repeat (first | refine Wp.seq ?_ | refine Wp.block ?_ | refine Wp.skip ?_ | refine Wp.exit ?_ | refine Wp.ret ?_ | refine thenK_n ?_ | refine thenK_r ?_ | refine thenK_e ?_ | refine blockK_n ?_ | refine blockK_r ?_ | refine blockK_e ?_ | refine blockK_o (by decide) ?_ | (refine Wp.condT ?_ ?_; focus (simp -implicitDefEqProofs [c1, c2] <;> fail)) | (refine Wp.condF ?_ ?_; focus (simp -implicitDefEqProofs [c1, c2] <;> fail)) | refine Wp.reg (by simp -implicitDefEqProofs [c1, c2]; exact ⟨rfl, rfl⟩) ?_ | refine Wp.regA (by simp -implicitDefEqProofs [c1, c2]; exact ⟨rfl, rfl⟩) (by rfl) ?_))
    (apply endK_r; (focus (simp -implicitDefEqProofs [Tryz.f104]; try rfl)); (focus (intro g; simp -implicitDefEqProofs [Tryz.f104])); exact ⟨_, rfl⟩)
theorem shape5_c {s : Ty} {v : V} (h : VD s v) (hn : VN 1000000000 v) (g : Nat) (S : St) (o1 o2 : Own) : callT (X.at g) (den X E) S 104 [.agg [.int .i64 (V.rv v).k, .int .i64 (V.rv v).n, .sl (List.map ic (V.rv v).l) o1, .sl (List.map RV.cells (V.rv v).as) o2]] = some (.bool true, S) := by
  simpa using call_up (cf := X.at g) (fn := Tryz.f104) (args' := [.agg [.int .i64 (V.rv v).k, .int .i64 (V.rv v).n, .sl (List.map ic (V.rv v).l) o1, .sl (List.map RV.cells (V.rv v).as) o2]]) (by kernel_rfl) (by simp) (by simp; try rfl) (by simpa using shape5 (E := E) h hn) S
theorem nodes5 {s : Ty} {v : V} (h : VD s v) (hs : s.size ≤ 1000000) : den X E 105 [(V.rv v).enc] [] = some (.int .i64 s.size, []) := by
  induction h with
  | num n =>
    simp only [V.rv_num, Ty.size]
    refine den_w0 (fn := Tryz.f105) (by rfl) (by rfl) (by kernel_rfl) rfl (by rfl) ?_
    simp -implicitDefEqProofs
    (repeat (first | refine Wp.seq ?_ | refine Wp.block ?_ | refine Wp.skip ?_ | refine Wp.exit ?_ | refine Wp.ret ?_ | refine thenK_n ?_ | refine thenK_r ?_ | refine thenK_e ?_ | refine blockK_n ?_ | refine blockK_r ?_ | refine blockK_e ?_ | refine blockK_o (by decide) ?_ | (refine Wp.condT ?_ ?_; focus (simp -implicitDefEqProofs <;> fail)) | (refine Wp.condF ?_ ?_; focus (simp -implicitDefEqProofs <;> fail)) | refine Wp.reg (by simp -implicitDefEqProofs; exact ⟨rfl, rfl⟩) ?_ | refine Wp.regA (by simp -implicitDefEqProofs; exact ⟨rfl, rfl⟩) (by rfl) ?_ | refine Wp.unroll ?_))
    (apply endK_r; (focus (simp -implicitDefEqProofs [Tryz.f105]; try rfl)); (focus (intro g; simp -implicitDefEqProofs [Tryz.f105])); exact ⟨_, rfl⟩)
  | unit =>
    simp only [V.rv_unit, Ty.size]
    refine den_w0 (fn := Tryz.f105) (by rfl) (by rfl) (by kernel_rfl) rfl (by rfl) ?_
    simp -implicitDefEqProofs
    (repeat (first | refine Wp.seq ?_ | refine Wp.block ?_ | refine Wp.skip ?_ | refine Wp.exit ?_ | refine Wp.ret ?_ | refine thenK_n ?_ | refine thenK_r ?_ | refine thenK_e ?_ | refine blockK_n ?_ | refine blockK_r ?_ | refine blockK_e ?_ | refine blockK_o (by decide) ?_ | (refine Wp.condT ?_ ?_; focus (simp -implicitDefEqProofs <;> fail)) | (refine Wp.condF ?_ ?_; focus (simp -implicitDefEqProofs <;> fail)) | refine Wp.reg (by simp -implicitDefEqProofs; exact ⟨rfl, rfl⟩) ?_ | refine Wp.regA (by simp -implicitDefEqProofs; exact ⟨rfl, rfl⟩) (by rfl) ?_ | refine Wp.unroll ?_))
    (apply endK_r; (focus (simp -implicitDefEqProofs [Tryz.f105]; try rfl)); (focus (intro g; simp -implicitDefEqProofs [Tryz.f105])); exact ⟨_, rfl⟩)
  | list l =>
    simp only [V.rv_list, Ty.size]
    refine den_w0 (fn := Tryz.f105) (by rfl) (by rfl) (by kernel_rfl) rfl (by rfl) ?_
    simp -implicitDefEqProofs
    (repeat (first | refine Wp.seq ?_ | refine Wp.block ?_ | refine Wp.skip ?_ | refine Wp.exit ?_ | refine Wp.ret ?_ | refine thenK_n ?_ | refine thenK_r ?_ | refine thenK_e ?_ | refine blockK_n ?_ | refine blockK_r ?_ | refine blockK_e ?_ | refine blockK_o (by decide) ?_ | (refine Wp.condT ?_ ?_; focus (simp -implicitDefEqProofs <;> fail)) | (refine Wp.condF ?_ ?_; focus (simp -implicitDefEqProofs <;> fail)) | refine Wp.reg (by simp -implicitDefEqProofs; exact ⟨rfl, rfl⟩) ?_ | refine Wp.regA (by simp -implicitDefEqProofs; exact ⟨rfl, rfl⟩) (by rfl) ?_ | refine Wp.unroll ?_))
    (apply endK_r; (focus (simp -implicitDefEqProofs [Tryz.f105]; try rfl)); (focus (intro g; simp -implicitDefEqProofs [Tryz.f105])); exact ⟨_, rfl⟩)
  | @pair s u a b h1 h2 ih1 ih2 =>
    simp only [Ty.size] at hs
    have c1 : ∀ (g : Nat) (S : St) (o1 o2 : Own), callT (X.at g) (den X E) S 105 [.agg [.int .i64 (V.rv a).k, .int .i64 (V.rv a).n, .sl (List.map ic (V.rv a).l) o1, .sl (List.map RV.cells (V.rv a).as) o2]] = some (.int .i64 s.size, S) := by
      intros
      simpa using call_up (cf := X.at _) (fn := Tryz.f105) (args' := [_]) (by kernel_rfl) (by simp) (by simp; try rfl) (by simpa using ih1 (by omega)) _
    have c2 : ∀ (g : Nat) (S : St) (o1 o2 : Own), callT (X.at g) (den X E) S 105 [.agg [.int .i64 (V.rv b).k, .int .i64 (V.rv b).n, .sl (List.map ic (V.rv b).l) o1, .sl (List.map RV.cells (V.rv b).as) o2]] = some (.int .i64 u.size, S) := by
      intros
      simpa using call_up (cf := X.at _) (fn := Tryz.f105) (args' := [_]) (by kernel_rfl) (by simp) (by simp; try rfl) (by simpa using ih2 (by omega)) _
    have hw1 : IntKind.i64.wrap 1 = 1 := by decide
    have hw2 : IntKind.i64.wrap 2 = 2 := by decide
    have hw3 : IntKind.i64.wrap ((1 : Int) + s.size) = 1 + s.size := IntWalk.i64_in _ (by omega)
    have hw4 : IntKind.i64.wrap ((1 : Int) + s.size + u.size) = 1 + s.size + u.size := IntWalk.i64_in _ (by omega)
    simp only [V.rv_pair, Ty.size]
    refine den_w0 (fn := Tryz.f105) (by rfl) (by rfl) (by kernel_rfl) rfl (by rfl) ?_
    simp -implicitDefEqProofs
    (repeat (first | refine Wp.seq ?_ | refine Wp.block ?_ | refine Wp.skip ?_ | refine Wp.exit ?_ | refine Wp.ret ?_ | refine thenK_n ?_ | refine thenK_r ?_ | refine thenK_e ?_ | refine blockK_n ?_ | refine blockK_r ?_ | refine blockK_e ?_ | refine blockK_o (by decide) ?_ | (refine Wp.condT ?_ ?_; focus (simp -implicitDefEqProofs [c1, c2, hw1, hw2, hw3, hw4] <;> fail)) | (refine Wp.condF ?_ ?_; focus (simp -implicitDefEqProofs [c1, c2, hw1, hw2, hw3, hw4] <;> fail)) | refine Wp.reg (by simp -implicitDefEqProofs [c1, c2, hw1, hw2, hw3, hw4]; exact ⟨rfl, rfl⟩) ?_ | refine Wp.regA (by simp -implicitDefEqProofs [c1, c2, hw1, hw2, hw3, hw4]; exact ⟨rfl, rfl⟩) (by rfl) ?_ | refine Wp.unroll ?_))
    (apply endK_r; (focus (simp -implicitDefEqProofs [Tryz.f105]; try rfl)); (focus (intro g; simp -implicitDefEqProofs [Tryz.f105]; omega)); exact ⟨_, rfl⟩)
theorem nodes5_c {s : Ty} {v : V} (h : VD s v) (hs : s.size ≤ 1000000) (g : Nat) (S : St) (o1 o2 : Own) : callT (X.at g) (den X E) S 105 [.agg [.int .i64 (V.rv v).k, .int .i64 (V.rv v).n, .sl (List.map ic (V.rv v).l) o1, .sl (List.map RV.cells (V.rv v).as) o2]] = some (.int .i64 s.size, S) := by
  simpa using call_up (cf := X.at g) (fn := Tryz.f105) (args' := [.agg [.int .i64 (V.rv v).k, .int .i64 (V.rv v).n, .sl (List.map ic (V.rv v).l) o1, .sl (List.map RV.cells (V.rv v).as) o2]]) (by kernel_rfl) (by simp) (by simp; try rfl) (by simpa using nodes5 (E := E) h hs) S
theorem check5 {s : Ty} {v : V} (h : VD s v) (hn : VN 1000000000 v) (hs : s.size ≤ 64) : den X E 72 [(V.rv v).enc] [] = some (.int .i64 0, []) := by
  have c1 := shape5_c (E := E) h hn
  have c2 := nodes5_c (E := E) h (by omega)
  have h64 : ¬ (64 : Int) < s.size := by omega
  refine den_w0 (fn := Tryz.f72) (by rfl) (by rfl) (by kernel_rfl) rfl (by rfl) ?_
  simp -implicitDefEqProofs
  (repeat (first | refine Wp.seq ?_ | refine Wp.block ?_ | refine Wp.skip ?_ | refine Wp.exit ?_ | refine Wp.ret ?_ | refine thenK_n ?_ | refine thenK_r ?_ | refine thenK_e ?_ | refine blockK_n ?_ | refine blockK_r ?_ | refine blockK_e ?_ | refine blockK_o (by decide) ?_ | (refine Wp.condT ?_ ?_; focus (simp -implicitDefEqProofs [c1, c2, h64] <;> fail)) | (refine Wp.condF ?_ ?_; focus (simp -implicitDefEqProofs [c1, c2, h64] <;> fail)) | refine Wp.reg (by simp -implicitDefEqProofs [c1, c2, h64]; exact ⟨rfl, rfl⟩) ?_ | refine Wp.regA (by simp -implicitDefEqProofs [c1, c2, h64]; exact ⟨rfl, rfl⟩) (by rfl) ?_))
  (apply endK_r; (focus (simp -implicitDefEqProofs [Tryz.f72]; try rfl)); (focus (intro g; simp -implicitDefEqProofs [Tryz.f72])); exact ⟨_, rfl⟩)
theorem check5_c {s : Ty} {v : V} (h : VD s v) (hn : VN 1000000000 v) (hs : s.size ≤ 64) (g : Nat) (S : St) (o1 o2 : Own) : callT (X.at g) (den X E) S 72 [.agg [.int .i64 (V.rv v).k, .int .i64 (V.rv v).n, .sl (List.map ic (V.rv v).l) o1, .sl (List.map RV.cells (V.rv v).as) o2]] = some (.int .i64 0, S) := by
  simpa using call_up (cf := X.at g) (fn := Tryz.f72) (args' := [.agg [.int .i64 (V.rv v).k, .int .i64 (V.rv v).n, .sl (List.map ic (V.rv v).l) o1, .sl (List.map RV.cells (V.rv v).as) o2]]) (by kernel_rfl) (by simp) (by simp; try rfl) (by simpa using check5 (E := E) h hn hs) S
theorem typed5 {s : Ty} {v : V} (h : VD s v) (hs : s.size ≤ 1000000) : den X E 101 [(V.rv v).enc] [] = some (s.raw.enc, []) := by
  induction h with
  | num n =>
    simp only [V.rv_num, Ty.raw]
    refine den_w0 (fn := Tryz.f101) (by rfl) (by rfl) (by kernel_rfl) rfl (by rfl) ?_
    simp -implicitDefEqProofs
    (repeat (first | refine Wp.seq ?_ | refine Wp.block ?_ | refine Wp.skip ?_ | refine Wp.exit ?_ | refine Wp.ret ?_ | refine thenK_n ?_ | refine thenK_r ?_ | refine thenK_e ?_ | refine blockK_n ?_ | refine blockK_r ?_ | refine blockK_e ?_ | refine blockK_o (by decide) ?_ | (refine Wp.condT ?_ ?_; focus (simp -implicitDefEqProofs [nat1_c, list1_c, unit1_c] <;> fail)) | (refine Wp.condF ?_ ?_; focus (simp -implicitDefEqProofs [nat1_c, list1_c, unit1_c] <;> fail)) | refine Wp.reg (by simp -implicitDefEqProofs [nat1_c, list1_c, unit1_c]; exact ⟨rfl, rfl⟩) ?_ | refine Wp.regA (by simp -implicitDefEqProofs [nat1_c, list1_c, unit1_c]; exact ⟨rfl, rfl⟩) (by rfl) ?_))
    (apply endK_r; (focus (simp -implicitDefEqProofs [Tryz.f101]; try rfl)); (focus (intro g; simp -implicitDefEqProofs [Tryz.f101])); exact ⟨_, rfl⟩)
  | unit =>
    simp only [V.rv_unit, Ty.raw]
    refine den_w0 (fn := Tryz.f101) (by rfl) (by rfl) (by kernel_rfl) rfl (by rfl) ?_
    simp -implicitDefEqProofs
    (repeat (first | refine Wp.seq ?_ | refine Wp.block ?_ | refine Wp.skip ?_ | refine Wp.exit ?_ | refine Wp.ret ?_ | refine thenK_n ?_ | refine thenK_r ?_ | refine thenK_e ?_ | refine blockK_n ?_ | refine blockK_r ?_ | refine blockK_e ?_ | refine blockK_o (by decide) ?_ | (refine Wp.condT ?_ ?_; focus (simp -implicitDefEqProofs [nat1_c, list1_c, unit1_c] <;> fail)) | (refine Wp.condF ?_ ?_; focus (simp -implicitDefEqProofs [nat1_c, list1_c, unit1_c] <;> fail)) | refine Wp.reg (by simp -implicitDefEqProofs [nat1_c, list1_c, unit1_c]; exact ⟨rfl, rfl⟩) ?_ | refine Wp.regA (by simp -implicitDefEqProofs [nat1_c, list1_c, unit1_c]; exact ⟨rfl, rfl⟩) (by rfl) ?_))
    (apply endK_r; (focus (simp -implicitDefEqProofs [Tryz.f101]; try rfl)); (focus (intro g; simp -implicitDefEqProofs [Tryz.f101])); exact ⟨_, rfl⟩)
  | list l =>
    simp only [V.rv_list, Ty.raw]
    refine den_w0 (fn := Tryz.f101) (by rfl) (by rfl) (by kernel_rfl) rfl (by rfl) ?_
    simp -implicitDefEqProofs
    (repeat (first | refine Wp.seq ?_ | refine Wp.block ?_ | refine Wp.skip ?_ | refine Wp.exit ?_ | refine Wp.ret ?_ | refine thenK_n ?_ | refine thenK_r ?_ | refine thenK_e ?_ | refine blockK_n ?_ | refine blockK_r ?_ | refine blockK_e ?_ | refine blockK_o (by decide) ?_ | (refine Wp.condT ?_ ?_; focus (simp -implicitDefEqProofs [nat1_c, list1_c, unit1_c] <;> fail)) | (refine Wp.condF ?_ ?_; focus (simp -implicitDefEqProofs [nat1_c, list1_c, unit1_c] <;> fail)) | refine Wp.reg (by simp -implicitDefEqProofs [nat1_c, list1_c, unit1_c]; exact ⟨rfl, rfl⟩) ?_ | refine Wp.regA (by simp -implicitDefEqProofs [nat1_c, list1_c, unit1_c]; exact ⟨rfl, rfl⟩) (by rfl) ?_))
    (apply endK_r; (focus (simp -implicitDefEqProofs [Tryz.f101]; try rfl)); (focus (intro g; simp -implicitDefEqProofs [Tryz.f101])); exact ⟨_, rfl⟩)
  | @pair s u a b h1 h2 ih1 ih2 =>
    simp only [Ty.size] at hs
    have c1 : ∀ (g : Nat) (S : St) (o1 o2 : Own), callT (X.at g) (den X E) S 101 [.agg [.int .i64 (V.rv a).k, .int .i64 (V.rv a).n, .sl (List.map ic (V.rv a).l) o1, .sl (List.map RV.cells (V.rv a).as) o2]] = some (.agg [.int .i64 s.raw.k, .sl (List.map RT.cells s.raw.as) .dead], S) := by
      intros
      simpa using call_up (cf := X.at _) (fn := Tryz.f101) (args' := [_]) (by kernel_rfl) (by simp) (by simp; try rfl) (by simpa using ih1 (by omega)) _
    have c2 : ∀ (g : Nat) (S : St) (o1 o2 : Own), callT (X.at g) (den X E) S 101 [.agg [.int .i64 (V.rv b).k, .int .i64 (V.rv b).n, .sl (List.map ic (V.rv b).l) o1, .sl (List.map RV.cells (V.rv b).as) o2]] = some (.agg [.int .i64 u.raw.k, .sl (List.map RT.cells u.raw.as) .dead], S) := by
      intros
      simpa using call_up (cf := X.at _) (fn := Tryz.f101) (args' := [_]) (by kernel_rfl) (by simp) (by simp; try rfl) (by simpa using ih2 (by omega)) _
    have c3 := two1_c (E := E) (k := s.raw.k) (ts := s.raw.as) (m := u.raw.k) (us := u.raw.as) (by simp [Ty.raw_nodes]; omega) (by simp [Ty.raw_nodes]; omega)
    simp at c3
    simp only [V.rv_pair, Ty.raw]
    refine den_w0 (fn := Tryz.f101) (by rfl) (by rfl) (by kernel_rfl) rfl (by rfl) ?_
    simp -implicitDefEqProofs
    (repeat (first | refine Wp.seq ?_ | refine Wp.block ?_ | refine Wp.skip ?_ | refine Wp.exit ?_ | refine Wp.ret ?_ | refine thenK_n ?_ | refine thenK_r ?_ | refine thenK_e ?_ | refine blockK_n ?_ | refine blockK_r ?_ | refine blockK_e ?_ | refine blockK_o (by decide) ?_ | (refine Wp.condT ?_ ?_; focus (simp -implicitDefEqProofs [c1, c2, c3] <;> fail)) | (refine Wp.condF ?_ ?_; focus (simp -implicitDefEqProofs [c1, c2, c3] <;> fail)) | refine Wp.reg (by simp -implicitDefEqProofs [c1, c2, c3]; exact ⟨rfl, rfl⟩) ?_ | refine Wp.regA (by simp -implicitDefEqProofs [c1, c2, c3]; exact ⟨rfl, rfl⟩) (by rfl) ?_))
    (apply endK_r; (focus (simp -implicitDefEqProofs [Tryz.f101]; try rfl)); (focus (intro g; simp -implicitDefEqProofs [Tryz.f101])); exact ⟨_, rfl⟩)
theorem typed5_c {s : Ty} {v : V} (h : VD s v) (hs : s.size ≤ 1000000) (g : Nat) (S : St) (o1 o2 : Own) : callT (X.at g) (den X E) S 101 [.agg [.int .i64 (V.rv v).k, .int .i64 (V.rv v).n, .sl (List.map ic (V.rv v).l) o1, .sl (List.map RV.cells (V.rv v).as) o2]] = some (.agg [.int .i64 s.raw.k, .sl (List.map RT.cells s.raw.as) .dead], S) := by
  simpa using call_up (cf := X.at g) (fn := Tryz.f101) (args' := [.agg [.int .i64 (V.rv v).k, .int .i64 (V.rv v).n, .sl (List.map ic (V.rv v).l) o1, .sl (List.map RV.cells (V.rv v).as) o2]]) (by kernel_rfl) (by simp) (by simp; try rfl) (by simpa using typed5 (E := E) h hs) S
theorem typeOf5 {s : Ty} {v : V} (h : VD s v) (hn : VN 1000000000 v) (hs : s.size ≤ 64) : den X E 63 [(V.rv v).enc] [] = some (.tup [s.raw.enc, .int .i64 0], []) := by
  have c1 := check5_c (E := E) h hn hs
  have c2 := typed5_c (E := E) h (by omega)
  refine den_w0 (fn := Tryz.f63) (by rfl) (by rfl) (by kernel_rfl) rfl (by rfl) ?_
  simp -implicitDefEqProofs
  (repeat (first | refine Wp.seq ?_ | refine Wp.block ?_ | refine Wp.skip ?_ | refine Wp.exit ?_ | refine Wp.ret ?_ | refine thenK_n ?_ | refine thenK_r ?_ | refine thenK_e ?_ | refine blockK_n ?_ | refine blockK_r ?_ | refine blockK_e ?_ | refine blockK_o (by decide) ?_ | (refine Wp.condT ?_ ?_; focus (simp -implicitDefEqProofs [c1, c2] <;> fail)) | (refine Wp.condF ?_ ?_; focus (simp -implicitDefEqProofs [c1, c2] <;> fail)) | refine Wp.reg (by simp -implicitDefEqProofs [c1, c2]; exact ⟨rfl, rfl⟩) ?_ | refine Wp.regA (by simp -implicitDefEqProofs [c1, c2]; exact ⟨rfl, rfl⟩) (by rfl) ?_))
  (apply endK_r; (focus (simp -implicitDefEqProofs [Tryz.f63]; try rfl)); (focus (intro g; simp -implicitDefEqProofs [Tryz.f63])); exact ⟨_, rfl⟩)
theorem typeOf5_c {s : Ty} {v : V} (h : VD s v) (hn : VN 1000000000 v) (hs : s.size ≤ 64) (g : Nat) (S : St) (o1 o2 : Own) : callT (X.at g) (den X E) S 63 [.agg [.int .i64 (V.rv v).k, .int .i64 (V.rv v).n, .sl (List.map ic (V.rv v).l) o1, .sl (List.map RV.cells (V.rv v).as) o2]] = some (.tup [.agg [.int .i64 s.raw.k, .sl (List.map RT.cells s.raw.as) .dead], .int .i64 0], S) := by
  simpa using call_up (cf := X.at g) (fn := Tryz.f63) (args' := [.agg [.int .i64 (V.rv v).k, .int .i64 (V.rv v).n, .sl (List.map ic (V.rv v).l) o1, .sl (List.map RV.cells (V.rv v).as) o2]]) (by kernel_rfl) (by simp) (by simp; try rfl) (by simpa using typeOf5 (E := E) h hn hs) S
end M
end Go.Proofs.YthclcchnodjjpaaGreatDoor
/- ref06: of, plain, on plain values; ref01: level, Data. -/
set_option linter.unusedVariables false
set_option linter.unusedSimpArgs false
set_option maxRecDepth 10000
set_option maxHeartbeats 4000000
namespace Go.Proofs.YthclcchnodjjpaaGreatDoor
namespace M
attribute [local irreducible] Wp thenK blockK endK
variable {E : Oracle}
open T (V Ty Tm noTy VT VB)
attribute [local simp] noTy
theorem of6 {s : Ty} {v : V} (h : VD s v) : den X E 67 [(V.rv v).enc] [] = some ((V.rx v).enc, []) := by
  induction h with
  | num n =>
    simp only [V.rv_num, V.rx_num]
    refine den_w0 (fn := Tryz.f67) (by rfl) (by rfl) (by kernel_rfl) rfl (by rfl) ?_
    simp -implicitDefEqProofs
    (repeat (first | refine Wp.seq ?_ | refine Wp.block ?_ | refine Wp.skip ?_ | refine Wp.exit ?_ | refine Wp.ret ?_ | refine thenK_n ?_ | refine thenK_r ?_ | refine thenK_e ?_ | refine blockK_n ?_ | refine blockK_r ?_ | refine blockK_e ?_ | refine blockK_o (by decide) ?_ | (refine Wp.condT ?_ ?_; focus (simp -implicitDefEqProofs <;> fail)) | (refine Wp.condF ?_ ?_; focus (simp -implicitDefEqProofs <;> fail)) | refine Wp.reg (by simp -implicitDefEqProofs; exact ⟨rfl, rfl⟩) ?_ | refine Wp.regA (by simp -implicitDefEqProofs; exact ⟨rfl, rfl⟩) (by rfl) ?_ | refine Wp.unroll ?_))
    (apply endK_r; (focus (simp -implicitDefEqProofs [Tryz.f67]; try rfl)); (focus (intro g; simp -implicitDefEqProofs [Tryz.f67])); exact ⟨_, rfl⟩)
  | unit =>
    simp only [V.rv_unit, V.rx_unit]
    refine den_w0 (fn := Tryz.f67) (by rfl) (by rfl) (by kernel_rfl) rfl (by rfl) ?_
    simp -implicitDefEqProofs
    (repeat (first | refine Wp.seq ?_ | refine Wp.block ?_ | refine Wp.skip ?_ | refine Wp.exit ?_ | refine Wp.ret ?_ | refine thenK_n ?_ | refine thenK_r ?_ | refine thenK_e ?_ | refine blockK_n ?_ | refine blockK_r ?_ | refine blockK_e ?_ | refine blockK_o (by decide) ?_ | (refine Wp.condT ?_ ?_; focus (simp -implicitDefEqProofs <;> fail)) | (refine Wp.condF ?_ ?_; focus (simp -implicitDefEqProofs <;> fail)) | refine Wp.reg (by simp -implicitDefEqProofs; exact ⟨rfl, rfl⟩) ?_ | refine Wp.regA (by simp -implicitDefEqProofs; exact ⟨rfl, rfl⟩) (by rfl) ?_ | refine Wp.unroll ?_))
    (apply endK_r; (focus (simp -implicitDefEqProofs [Tryz.f67]; try rfl)); (focus (intro g; simp -implicitDefEqProofs [Tryz.f67])); exact ⟨_, rfl⟩)
  | list l =>
    simp only [V.rv_list, V.rx_list]
    refine den_w0 (fn := Tryz.f67) (by rfl) (by rfl) (by kernel_rfl) rfl (by rfl) ?_
    simp -implicitDefEqProofs
    (repeat (first | refine Wp.seq ?_ | refine Wp.block ?_ | refine Wp.skip ?_ | refine Wp.exit ?_ | refine Wp.ret ?_ | refine thenK_n ?_ | refine thenK_r ?_ | refine thenK_e ?_ | refine blockK_n ?_ | refine blockK_r ?_ | refine blockK_e ?_ | refine blockK_o (by decide) ?_ | (refine Wp.condT ?_ ?_; focus (simp -implicitDefEqProofs <;> fail)) | (refine Wp.condF ?_ ?_; focus (simp -implicitDefEqProofs <;> fail)) | refine Wp.reg (by simp -implicitDefEqProofs; exact ⟨rfl, rfl⟩) ?_ | refine Wp.regA (by simp -implicitDefEqProofs; exact ⟨rfl, rfl⟩) (by rfl) ?_ | refine Wp.unroll ?_))
    (apply endK_r; (focus (simp -implicitDefEqProofs [Tryz.f67]; try rfl)); (focus (intro g; simp -implicitDefEqProofs [Tryz.f67])); exact ⟨_, rfl⟩)
  | @pair s u a b h1 h2 ih1 ih2 =>
    have c1 : ∀ (g : Nat) (S : St) (o1 o2 : Own), callT (X.at g) (den X E) S 67 [.agg [.int .i64 (V.rv a).k, .int .i64 (V.rv a).n, .sl (List.map ic (V.rv a).l) o1, .sl (List.map RV.cells (V.rv a).as) o2]] = some (.agg [.int .i64 (V.rx a).n, .sl (List.map ic (V.rx a).l) .dead, .sl (List.map RX.cells (V.rx a).p) .dead, .int .i64 (V.rx a).b.k, .int .i64 (V.rx a).b.i, .int .i64 (V.rx a).b.ty.k, .sl (List.map RT.cells (V.rx a).b.ty.as) .dead, .sl (List.map RM.cells (V.rx a).b.as) .dead, .sl (List.map RX.cells (V.rx a).e) .dead], S) := by
      intros
      simpa using call_up (cf := X.at _) (fn := Tryz.f67) (args' := [_]) (by kernel_rfl) (by simp) (by simp; try rfl) (by simpa using ih1) _
    have c2 : ∀ (g : Nat) (S : St) (o1 o2 : Own), callT (X.at g) (den X E) S 67 [.agg [.int .i64 (V.rv b).k, .int .i64 (V.rv b).n, .sl (List.map ic (V.rv b).l) o1, .sl (List.map RV.cells (V.rv b).as) o2]] = some (.agg [.int .i64 (V.rx b).n, .sl (List.map ic (V.rx b).l) .dead, .sl (List.map RX.cells (V.rx b).p) .dead, .int .i64 (V.rx b).b.k, .int .i64 (V.rx b).b.i, .int .i64 (V.rx b).b.ty.k, .sl (List.map RT.cells (V.rx b).b.ty.as) .dead, .sl (List.map RM.cells (V.rx b).b.as) .dead, .sl (List.map RX.cells (V.rx b).e) .dead], S) := by
      intros
      simpa using call_up (cf := X.at _) (fn := Tryz.f67) (args' := [_]) (by kernel_rfl) (by simp) (by simp; try rfl) (by simpa using ih2) _
    have hw1 : IntKind.i64.wrap 1 = 1 := by decide
    have hw2 : IntKind.i64.wrap 2 = 2 := by decide
    simp only [V.rv_pair, V.rx_pair]
    refine den_w0 (fn := Tryz.f67) (by rfl) (by rfl) (by kernel_rfl) rfl (by rfl) ?_
    simp -implicitDefEqProofs
    (repeat (first | refine Wp.seq ?_ | refine Wp.block ?_ | refine Wp.skip ?_ | refine Wp.exit ?_ | refine Wp.ret ?_ | refine thenK_n ?_ | refine thenK_r ?_ | refine thenK_e ?_ | refine blockK_n ?_ | refine blockK_r ?_ | refine blockK_e ?_ | refine blockK_o (by decide) ?_ | (refine Wp.condT ?_ ?_; focus (simp -implicitDefEqProofs [c1, c2, hw1, hw2] <;> fail)) | (refine Wp.condF ?_ ?_; focus (simp -implicitDefEqProofs [c1, c2, hw1, hw2] <;> fail)) | refine Wp.reg (by simp -implicitDefEqProofs [c1, c2, hw1, hw2]; exact ⟨rfl, rfl⟩) ?_ | refine Wp.regA (by simp -implicitDefEqProofs [c1, c2, hw1, hw2]; exact ⟨rfl, rfl⟩) (by rfl) ?_ | refine Wp.unroll ?_))
    (apply endK_r; (focus (simp -implicitDefEqProofs [Tryz.f67]; try rfl)); (focus (intro g; simp -implicitDefEqProofs [Tryz.f67])); exact ⟨_, rfl⟩)
theorem of6_c {s : Ty} {v : V} (h : VD s v) (g : Nat) (S : St) (o1 o2 : Own) : callT (X.at g) (den X E) S 67 [.agg [.int .i64 (V.rv v).k, .int .i64 (V.rv v).n, .sl (List.map ic (V.rv v).l) o1, .sl (List.map RV.cells (V.rv v).as) o2]] = some (.agg [.int .i64 (V.rx v).n, .sl (List.map ic (V.rx v).l) .dead, .sl (List.map RX.cells (V.rx v).p) .dead, .int .i64 (V.rx v).b.k, .int .i64 (V.rx v).b.i, .int .i64 (V.rx v).b.ty.k, .sl (List.map RT.cells (V.rx v).b.ty.as) .dead, .sl (List.map RM.cells (V.rx v).b.as) .dead, .sl (List.map RX.cells (V.rx v).e) .dead], S) := by
  simpa using call_up (cf := X.at g) (fn := Tryz.f67) (args' := [.agg [.int .i64 (V.rv v).k, .int .i64 (V.rv v).n, .sl (List.map ic (V.rv v).l) o1, .sl (List.map RV.cells (V.rv v).as) o2]]) (by kernel_rfl) (by simp) (by simp; try rfl) (by simpa using of6 (E := E) h) S
theorem plain6 {s : Ty} {v : V} (h : VD s v) (hn : VN 1000000000 v) : den X E 68 [(V.rx v).enc, s.raw.enc] [] = some ((V.rv v).enc, []) := by
  induction h with
  | num n =>
    simp only [V.rv_num, V.rx_num, Ty.raw]
    refine den_w0 (fn := Tryz.f68) (by rfl) (by rfl) (by kernel_rfl) rfl (by rfl) ?_
    simp -implicitDefEqProofs
    (repeat (first | refine Wp.seq ?_ | refine Wp.block ?_ | refine Wp.skip ?_ | refine Wp.exit ?_ | refine Wp.ret ?_ | refine thenK_n ?_ | refine thenK_r ?_ | refine thenK_e ?_ | refine blockK_n ?_ | refine blockK_r ?_ | refine blockK_e ?_ | refine blockK_o (by decide) ?_ | (refine Wp.condT ?_ ?_; focus (simp -implicitDefEqProofs <;> fail)) | (refine Wp.condF ?_ ?_; focus (simp -implicitDefEqProofs <;> fail)) | refine Wp.reg (by simp -implicitDefEqProofs; exact ⟨rfl, rfl⟩) ?_ | refine Wp.regA (by simp -implicitDefEqProofs; exact ⟨rfl, rfl⟩) (by rfl) ?_))
    (apply endK_r; (focus (simp -implicitDefEqProofs [Tryz.f68]; try rfl)); (focus (intro g; simp -implicitDefEqProofs [Tryz.f68])); exact ⟨_, rfl⟩)
  | unit =>
    simp only [V.rv_unit, V.rx_unit, Ty.raw]
    refine den_w0 (fn := Tryz.f68) (by rfl) (by rfl) (by kernel_rfl) rfl (by rfl) ?_
    simp -implicitDefEqProofs
    (repeat (first | refine Wp.seq ?_ | refine Wp.block ?_ | refine Wp.skip ?_ | refine Wp.exit ?_ | refine Wp.ret ?_ | refine thenK_n ?_ | refine thenK_r ?_ | refine thenK_e ?_ | refine blockK_n ?_ | refine blockK_r ?_ | refine blockK_e ?_ | refine blockK_o (by decide) ?_ | (refine Wp.condT ?_ ?_; focus (simp -implicitDefEqProofs <;> fail)) | (refine Wp.condF ?_ ?_; focus (simp -implicitDefEqProofs <;> fail)) | refine Wp.reg (by simp -implicitDefEqProofs; exact ⟨rfl, rfl⟩) ?_ | refine Wp.regA (by simp -implicitDefEqProofs; exact ⟨rfl, rfl⟩) (by rfl) ?_))
    (apply endK_r; (focus (simp -implicitDefEqProofs [Tryz.f68]; try rfl)); (focus (intro g; simp -implicitDefEqProofs [Tryz.f68])); exact ⟨_, rfl⟩)
  | list l =>
    cases hn with
    | list hl hx =>
    obtain ⟨o1, tk1, a1, k1⟩ := can_apps (tk := []) (es := []) (o := .full) trivial (l.map (ic ∘ Int.ofNat)) 1 (by decide) (by simp) (by simp) (by simp; omega)
    simp only [List.nil_append] at a1
    simp only [V.rv_list, V.rx_list, Ty.raw]
    refine den_w0 (fn := Tryz.f68) (by rfl) (by rfl) (by kernel_rfl) rfl (by rfl) ?_
    simp -implicitDefEqProofs
    (repeat (first | refine Wp.seq ?_ | refine Wp.block ?_ | refine Wp.skip ?_ | refine Wp.exit ?_ | refine Wp.ret ?_ | refine thenK_n ?_ | refine thenK_r ?_ | refine thenK_e ?_ | refine blockK_n ?_ | refine blockK_r ?_ | refine blockK_e ?_ | refine blockK_o (by decide) ?_ | (refine Wp.condT ?_ ?_; focus (simp -implicitDefEqProofs [a1, -append_full] <;> fail)) | (refine Wp.condF ?_ ?_; focus (simp -implicitDefEqProofs [a1, -append_full] <;> fail)) | refine Wp.reg (by simp -implicitDefEqProofs [a1, -append_full]; exact ⟨rfl, rfl⟩) ?_ | refine Wp.regA (by simp -implicitDefEqProofs [a1, -append_full]; exact ⟨rfl, rfl⟩) (by rfl) ?_))
    (apply endK_r; (focus (simp -implicitDefEqProofs [Tryz.f68]; try rfl)); (focus (intro g; simp -implicitDefEqProofs [Tryz.f68])); exact ⟨_, rfl⟩)
  | @pair s u a b h1 h2 ih1 ih2 =>
    cases hn with
    | pair hn1 hn2 =>
    have c1 : ∀ (g : Nat) (S : St) (o1 o2 o3 o4 o5 o6 : Own), callT (X.at g) (den X E) S 68 [.agg [.int .i64 (V.rx a).n, .sl (List.map ic (V.rx a).l) o1, .sl (List.map RX.cells (V.rx a).p) o2, .int .i64 (V.rx a).b.k, .int .i64 (V.rx a).b.i, .int .i64 (V.rx a).b.ty.k, .sl (List.map RT.cells (V.rx a).b.ty.as) o3, .sl (List.map RM.cells (V.rx a).b.as) o4, .sl (List.map RX.cells (V.rx a).e) o5], .agg [.int .i64 s.raw.k, .sl (List.map RT.cells s.raw.as) o6]] = some (.agg [.int .i64 (V.rv a).k, .int .i64 (V.rv a).n, .sl (List.map ic (V.rv a).l) .dead, .sl (List.map RV.cells (V.rv a).as) .dead], S) := by
      intros
      simpa using call_up (cf := X.at _) (fn := Tryz.f68) (args' := [_, _]) (by kernel_rfl) (by simp) (by simp; try rfl) (by simpa using ih1 hn1) _
    have c2 : ∀ (g : Nat) (S : St) (o1 o2 o3 o4 o5 o6 : Own), callT (X.at g) (den X E) S 68 [.agg [.int .i64 (V.rx b).n, .sl (List.map ic (V.rx b).l) o1, .sl (List.map RX.cells (V.rx b).p) o2, .int .i64 (V.rx b).b.k, .int .i64 (V.rx b).b.i, .int .i64 (V.rx b).b.ty.k, .sl (List.map RT.cells (V.rx b).b.ty.as) o3, .sl (List.map RM.cells (V.rx b).b.as) o4, .sl (List.map RX.cells (V.rx b).e) o5], .agg [.int .i64 u.raw.k, .sl (List.map RT.cells u.raw.as) o6]] = some (.agg [.int .i64 (V.rv b).k, .int .i64 (V.rv b).n, .sl (List.map ic (V.rv b).l) .dead, .sl (List.map RV.cells (V.rv b).as) .dead], S) := by
      intros
      simpa using call_up (cf := X.at _) (fn := Tryz.f68) (args' := [_, _]) (by kernel_rfl) (by simp) (by simp; try rfl) (by simpa using ih2 hn2) _
    simp only [V.rv_pair, V.rx_pair, Ty.raw]
    refine den_w0 (fn := Tryz.f68) (by rfl) (by rfl) (by kernel_rfl) rfl (by rfl) ?_
    simp -implicitDefEqProofs
    (repeat (first | refine Wp.seq ?_ | refine Wp.block ?_ | refine Wp.skip ?_ | refine Wp.exit ?_ | refine Wp.ret ?_ | refine thenK_n ?_ | refine thenK_r ?_ | refine thenK_e ?_ | refine blockK_n ?_ | refine blockK_r ?_ | refine blockK_e ?_ | refine blockK_o (by decide) ?_ | (refine Wp.condT ?_ ?_; focus (simp -implicitDefEqProofs [c1, c2] <;> fail)) | (refine Wp.condF ?_ ?_; focus (simp -implicitDefEqProofs [c1, c2] <;> fail)) | refine Wp.reg (by simp -implicitDefEqProofs [c1, c2]; exact ⟨rfl, rfl⟩) ?_ | refine Wp.regA (by simp -implicitDefEqProofs [c1, c2]; exact ⟨rfl, rfl⟩) (by rfl) ?_))
    (apply endK_r; (focus (simp -implicitDefEqProofs [Tryz.f68]; try rfl)); (focus (intro g; simp -implicitDefEqProofs [Tryz.f68])); exact ⟨_, rfl⟩)
theorem plain6_c {s : Ty} {v : V} (h : VD s v) (hn : VN 1000000000 v) (g : Nat) (S : St) (o1 o2 o3 o4 o5 o6 : Own) : callT (X.at g) (den X E) S 68 [.agg [.int .i64 (V.rx v).n, .sl (List.map ic (V.rx v).l) o1, .sl (List.map RX.cells (V.rx v).p) o2, .int .i64 (V.rx v).b.k, .int .i64 (V.rx v).b.i, .int .i64 (V.rx v).b.ty.k, .sl (List.map RT.cells (V.rx v).b.ty.as) o3, .sl (List.map RM.cells (V.rx v).b.as) o4, .sl (List.map RX.cells (V.rx v).e) o5], .agg [.int .i64 s.raw.k, .sl (List.map RT.cells s.raw.as) o6]] = some (.agg [.int .i64 (V.rv v).k, .int .i64 (V.rv v).n, .sl (List.map ic (V.rv v).l) .dead, .sl (List.map RV.cells (V.rv v).as) .dead], S) := by
  simpa using call_up (cf := X.at g) (fn := Tryz.f68) (args' := [.agg [.int .i64 (V.rx v).n, .sl (List.map ic (V.rx v).l) o1, .sl (List.map RX.cells (V.rx v).p) o2, .int .i64 (V.rx v).b.k, .int .i64 (V.rx v).b.i, .int .i64 (V.rx v).b.ty.k, .sl (List.map RT.cells (V.rx v).b.ty.as) o3, .sl (List.map RM.cells (V.rx v).b.as) o4, .sl (List.map RX.cells (V.rx v).e) o5], .agg [.int .i64 s.raw.k, .sl (List.map RT.cells s.raw.as) o6]]) (by kernel_rfl) (by simp) (by simp; try rfl) (by simpa using plain6 (E := E) h hn) S
theorem rlevel1 (s : Ty) (hs : s.size ≤ 1000000000) : den X E 102 [s.raw.enc] [] = some (.int .i64 s.level, []) := by
  induction s with
  | pair a b ih1 ih2 =>
    simp only [Ty.size] at hs
    have c1 : ∀ (g : Nat) (S : St) (o1 : Own), callT (X.at g) (den X E) S 102 [.agg [.int .i64 a.raw.k, .sl (List.map RT.cells a.raw.as) o1]] = some (.int .i64 a.level, S) := by
      intros
      simpa using call_up (cf := X.at _) (fn := Tryz.f102) (args' := [_]) (by kernel_rfl) (by simp) (by simp; try rfl) (by simpa using ih1 (by omega)) _
    have c2 : ∀ (g : Nat) (S : St) (o1 : Own), callT (X.at g) (den X E) S 102 [.agg [.int .i64 b.raw.k, .sl (List.map RT.cells b.raw.as) o1]] = some (.int .i64 b.level, S) := by
      intros
      simpa using call_up (cf := X.at _) (fn := Tryz.f102) (args' := [_]) (by kernel_rfl) (by simp) (by simp; try rfl) (by simpa using ih2 (by omega)) _
    have hm : (if (a.level : Int) < b.level then (b.level : Int) else a.level) = (max a.level b.level : Nat) := by split <;> omega
    simp only [Ty.raw, Ty.level]
    refine den_w0 (fn := Tryz.f102) (by rfl) (by rfl) (by kernel_rfl) rfl (by rfl) ?_
    simp -implicitDefEqProofs
    (repeat (first | refine Wp.seq ?_ | refine Wp.block ?_ | refine Wp.skip ?_ | refine Wp.exit ?_ | refine Wp.ret ?_ | refine thenK_n ?_ | refine thenK_r ?_ | refine thenK_e ?_ | refine blockK_n ?_ | refine blockK_r ?_ | refine blockK_e ?_ | refine blockK_o (by decide) ?_ | (refine Wp.condT ?_ ?_; focus (simp -implicitDefEqProofs [c1, c2] <;> fail)) | (refine Wp.condF ?_ ?_; focus (simp -implicitDefEqProofs [c1, c2] <;> fail)) | refine Wp.reg (by simp -implicitDefEqProofs [c1, c2]; exact ⟨rfl, rfl⟩) ?_ | refine Wp.regA (by simp -implicitDefEqProofs [c1, c2]; exact ⟨rfl, rfl⟩) (by rfl) ?_))
    (apply endK_r; (focus (simp -implicitDefEqProofs [Tryz.f102]; try rfl)); (focus (intro g; simp -implicitDefEqProofs [Tryz.f102]; split <;> omega)); exact ⟨_, rfl⟩)
  | fn a b ih1 ih2 =>
    simp only [Ty.size] at hs
    have hl := a.level_size
    have c1 : ∀ (g : Nat) (S : St) (o1 : Own), callT (X.at g) (den X E) S 102 [.agg [.int .i64 a.raw.k, .sl (List.map RT.cells a.raw.as) o1]] = some (.int .i64 a.level, S) := by
      intros
      simpa using call_up (cf := X.at _) (fn := Tryz.f102) (args' := [_]) (by kernel_rfl) (by simp) (by simp; try rfl) (by simpa using ih1 (by omega)) _
    have c2 : ∀ (g : Nat) (S : St) (o1 : Own), callT (X.at g) (den X E) S 102 [.agg [.int .i64 b.raw.k, .sl (List.map RT.cells b.raw.as) o1]] = some (.int .i64 b.level, S) := by
      intros
      simpa using call_up (cf := X.at _) (fn := Tryz.f102) (args' := [_]) (by kernel_rfl) (by simp) (by simp; try rfl) (by simpa using ih2 (by omega)) _
    have hw : IntKind.i64.wrap ((a.level : Int) + 1) = a.level + 1 := IntWalk.i64_in _ (by omega)
    have hm : (if (a.level : Int) + 1 < b.level then (b.level : Int) else a.level + 1) = (max (a.level + 1) b.level : Nat) := by split <;> omega
    simp only [Ty.raw, Ty.level]
    refine den_w0 (fn := Tryz.f102) (by rfl) (by rfl) (by kernel_rfl) rfl (by rfl) ?_
    simp -implicitDefEqProofs
    (repeat (first | refine Wp.seq ?_ | refine Wp.block ?_ | refine Wp.skip ?_ | refine Wp.exit ?_ | refine Wp.ret ?_ | refine thenK_n ?_ | refine thenK_r ?_ | refine thenK_e ?_ | refine blockK_n ?_ | refine blockK_r ?_ | refine blockK_e ?_ | refine blockK_o (by decide) ?_ | (refine Wp.condT ?_ ?_; focus (simp -implicitDefEqProofs [c1, c2, hw] <;> fail)) | (refine Wp.condF ?_ ?_; focus (simp -implicitDefEqProofs [c1, c2, hw] <;> fail)) | refine Wp.reg (by simp -implicitDefEqProofs [c1, c2, hw]; exact ⟨rfl, rfl⟩) ?_ | refine Wp.regA (by simp -implicitDefEqProofs [c1, c2, hw]; exact ⟨rfl, rfl⟩) (by rfl) ?_))
    (apply endK_r; (focus (simp -implicitDefEqProofs [Tryz.f102]; try rfl)); (focus (intro g; simp -implicitDefEqProofs [Tryz.f102]; split <;> omega)); exact ⟨_, rfl⟩)
  | _ =>
    simp only [Ty.raw, Ty.level]
    refine den_w0 (fn := Tryz.f102) (by rfl) (by rfl) (by kernel_rfl) rfl (by rfl) ?_
    simp -implicitDefEqProofs
    (repeat (first | refine Wp.seq ?_ | refine Wp.block ?_ | refine Wp.skip ?_ | refine Wp.exit ?_ | refine Wp.ret ?_ | refine thenK_n ?_ | refine thenK_r ?_ | refine thenK_e ?_ | refine blockK_n ?_ | refine blockK_r ?_ | refine blockK_e ?_ | refine blockK_o (by decide) ?_ | (refine Wp.condT ?_ ?_; focus (simp -implicitDefEqProofs <;> fail)) | (refine Wp.condF ?_ ?_; focus (simp -implicitDefEqProofs <;> fail)) | refine Wp.reg (by simp -implicitDefEqProofs; exact ⟨rfl, rfl⟩) ?_ | refine Wp.regA (by simp -implicitDefEqProofs; exact ⟨rfl, rfl⟩) (by rfl) ?_))
    (apply endK_r; (focus (simp -implicitDefEqProofs [Tryz.f102]; try rfl)); (focus (intro g; simp -implicitDefEqProofs [Tryz.f102])); exact ⟨_, rfl⟩)
theorem rlevel1_c {s : Ty} (hs : s.size ≤ 1000000000) (g : Nat) (S : St) (o1 : Own) : callT (X.at g) (den X E) S 102 [.agg [.int .i64 s.raw.k, .sl (List.map RT.cells s.raw.as) o1]] = some (.int .i64 s.level, S) := by
  simpa using call_up (cf := X.at g) (fn := Tryz.f102) (args' := [.agg [.int .i64 s.raw.k, .sl (List.map RT.cells s.raw.as) o1]]) (by kernel_rfl) (by simp) (by simp; try rfl) (rlevel1 s hs) S
theorem Ty.data_level (s : Ty) : s.data = decide (s.level = 0) := by
  have h0 : ∀ m n : Nat, (max m n = 0) = (m = 0 ∧ n = 0) := fun m n => propext (by omega)
  induction s with
  | pair a b ih1 ih2 => simp only [Ty.data, Ty.level, ih1, ih2, h0, Bool.decide_and]
  | fn a b _ _ => simp [Ty.data, Ty.level, h0]
  | _ => rfl
theorem data1 (s : Ty) (hs : s.size ≤ 64) : den X E 64 [s.raw.enc] [] = some (.tup [.bool s.data, .int .i64 0], []) := by
  have c1 := check1_c (E := E) (k := s.raw.k) (ts := s.raw.as) (by simp [Ty.raw_nodes]; omega)
  simp [s.raw_err hs] at c1
  have c2 := rlevel1_c (E := E) (s := s) (by omega)
  have hd := Ty.data_level s
  rw [hd]
  by_cases h : s.level = 0
  · simp [h] at c2
    refine den_w0 (fn := Tryz.f64) (by rfl) (by rfl) (by kernel_rfl) rfl (by rfl) ?_
    simp -implicitDefEqProofs
    (repeat (first | refine Wp.seq ?_ | refine Wp.block ?_ | refine Wp.skip ?_ | refine Wp.exit ?_ | refine Wp.ret ?_ | refine thenK_n ?_ | refine thenK_r ?_ | refine thenK_e ?_ | refine blockK_n ?_ | refine blockK_r ?_ | refine blockK_e ?_ | refine blockK_o (by decide) ?_ | (refine Wp.condT ?_ ?_; focus (simp -implicitDefEqProofs [c1, c2] <;> fail)) | (refine Wp.condF ?_ ?_; focus (simp -implicitDefEqProofs [c1, c2] <;> fail)) | refine Wp.reg (by simp -implicitDefEqProofs [c1, c2]; exact ⟨rfl, rfl⟩) ?_ | refine Wp.regA (by simp -implicitDefEqProofs [c1, c2]; exact ⟨rfl, rfl⟩) (by rfl) ?_))
    (apply endK_r; (focus (simp -implicitDefEqProofs [Tryz.f64, h]; try rfl)); (focus (intro g; simp -implicitDefEqProofs [Tryz.f64, h])); exact ⟨_, rfl⟩)
  · have h' : ¬ (s.level : Int) = 0 := by omega
    refine den_w0 (fn := Tryz.f64) (by rfl) (by rfl) (by kernel_rfl) rfl (by rfl) ?_
    simp -implicitDefEqProofs
    (repeat (first | refine Wp.seq ?_ | refine Wp.block ?_ | refine Wp.skip ?_ | refine Wp.exit ?_ | refine Wp.ret ?_ | refine thenK_n ?_ | refine thenK_r ?_ | refine thenK_e ?_ | refine blockK_n ?_ | refine blockK_r ?_ | refine blockK_e ?_ | refine blockK_o (by decide) ?_ | (refine Wp.condT ?_ ?_; focus (simp -implicitDefEqProofs [c1, c2, h'] <;> fail)) | (refine Wp.condF ?_ ?_; focus (simp -implicitDefEqProofs [c1, c2, h'] <;> fail)) | refine Wp.reg (by simp -implicitDefEqProofs [c1, c2, h']; exact ⟨rfl, rfl⟩) ?_ | refine Wp.regA (by simp -implicitDefEqProofs [c1, c2, h']; exact ⟨rfl, rfl⟩) (by rfl) ?_))
    (apply endK_r; (focus (simp -implicitDefEqProofs [Tryz.f64, h, h']; try rfl)); (focus (intro g; simp -implicitDefEqProofs [Tryz.f64, h, h'])); exact ⟨_, rfl⟩)
theorem data1_c {s : Ty} (hs : s.size ≤ 64) (g : Nat) (S : St) (o1 : Own) : callT (X.at g) (den X E) S 64 [.agg [.int .i64 s.raw.k, .sl (List.map RT.cells s.raw.as) o1]] = some (.tup [.bool s.data, .int .i64 0], S) := by
  simpa using call_up (cf := X.at g) (fn := Tryz.f64) (args' := [.agg [.int .i64 s.raw.k, .sl (List.map RT.cells s.raw.as) o1]]) (by kernel_rfl) (by simp) (by simp; try rfl) (data1 s hs) S
end M
end Go.Proofs.YthclcchnodjjpaaGreatDoor
/- THE TYPE OF A TERM, found part by part. -/
set_option linter.unusedVariables false
set_option linter.unusedSimpArgs false
namespace Go.Proofs.YthclcchnodjjpaaGreatDoor
namespace T
open M
def resT : Res → RT
  | .inl s => s.raw
  | .inr _ => .mk 0 []
def resE : Res → Int
  | .inl _ => 0
  | .inr e => e
/-- What the types of the parts give. -/
def combT : Tm → List Ty → Res
  | .app _ _, [.fn s u, y] => if s = y then .inl u else .inr 7
  | .zero, _ => .inl .nat
  | .succ _, [x] => if x = .nat then .inl .nat else .inr 7
  | .recn s _ _ _, [x, y, z] => if x = s ∧ y = .fn .nat (.fn s s) ∧ z = .nat then .inl s else .inr 7
  | .nil, _ => .inl .list
  | .cons _ _, [x, y] => if x = .nat ∧ y = .list then .inl .list else .inr 7
  | .fold s _ _ _, [x, y, z] => if x = s ∧ y = .fn .nat (.fn .list (.fn s s)) ∧ z = .list then .inl s else .inr 7
  | .pair _ _, [x, y] => fit (.pair x y)
  | .fst _, [.pair s _] => .inl s
  | .snd _, [.pair _ u] => .inl u
  | .unit, _ => .inl .unit
  | _, _ => .inr 7
def Tm.two : Tm → Bool
  | .var _ => false
  | .lam _ _ => false
  | _ => true
theorem tyR_comb {g : List Ty} {t : Tm} {ss : List Ty} (ht : t.two = true) (h : t.kids.map (tyR g) = ss.map .inl) : tyR g t = combT t ss := by
  cases t with
  | var i => cases ht
  | lam s b => cases ht
  | zero => rfl
  | nil => rfl
  | unit => rfl
  | succ a =>
    rcases ss with _ | ⟨x, _ | ⟨y, ss⟩⟩ <;> simp [Tm.kids] at h
    simp [tyR, h, Res.bind, combT]
  | fst a =>
    rcases ss with _ | ⟨x, _ | ⟨y, ss⟩⟩ <;> simp [Tm.kids] at h
    cases x <;> simp [tyR, h, Res.bind, combT]
  | snd a =>
    rcases ss with _ | ⟨x, _ | ⟨y, ss⟩⟩ <;> simp [Tm.kids] at h
    cases x <;> simp [tyR, h, Res.bind, combT]
  | app f a =>
    rcases ss with _ | ⟨x, _ | ⟨y, _ | ⟨z, ss⟩⟩⟩ <;> simp [Tm.kids] at h
    cases x <;> simp [tyR, h, Res.bind, combT]
  | cons f a =>
    rcases ss with _ | ⟨x, _ | ⟨y, _ | ⟨z, ss⟩⟩⟩ <;> simp [Tm.kids] at h
    simp [tyR, h, Res.bind, combT]
  | pair f a =>
    rcases ss with _ | ⟨x, _ | ⟨y, _ | ⟨z, ss⟩⟩⟩ <;> simp [Tm.kids] at h
    simp [tyR, h, Res.bind, combT]
  | recn s b f n =>
    rcases ss with _ | ⟨x, _ | ⟨y, _ | ⟨z, _ | ⟨w, ss⟩⟩⟩⟩ <;> simp [Tm.kids] at h
    simp [tyR, h, Res.bind, combT]
  | fold s b f n =>
    rcases ss with _ | ⟨x, _ | ⟨y, _ | ⟨z, _ | ⟨w, ss⟩⟩⟩⟩ <;> simp [Tm.kids] at h
    simp [tyR, h, Res.bind, combT]
theorem tyR_fail {g : List Ty} {t a : Tm} {done rest : List Tm} {ss : List Ty} {e : Int} (ht : t.two = true) (hk : t.kids = done ++ a :: rest) (h : done.map (tyR g) = ss.map .inl) (ha : tyR g a = .inr e) : tyR g t = .inr e := by
  cases t with
  | var i => cases ht
  | lam s b => cases ht
  | zero => simp [Tm.kids] at hk
  | nil => simp [Tm.kids] at hk
  | unit => simp [Tm.kids] at hk
  | succ x =>
    rcases done with _ | ⟨d, done⟩ <;> simp [Tm.kids] at hk
    obtain ⟨rfl, _⟩ := hk
    simp [tyR, ha, Res.bind]
  | fst x =>
    rcases done with _ | ⟨d, done⟩ <;> simp [Tm.kids] at hk
    obtain ⟨rfl, _⟩ := hk
    simp [tyR, ha, Res.bind]
  | snd x =>
    rcases done with _ | ⟨d, done⟩ <;> simp [Tm.kids] at hk
    obtain ⟨rfl, _⟩ := hk
    simp [tyR, ha, Res.bind]
  | app x y =>
    rcases done with _ | ⟨d, _ | ⟨d', done⟩⟩ <;> simp [Tm.kids] at hk
    · obtain ⟨rfl, _⟩ := hk
      simp [tyR, ha, Res.bind]
    · obtain ⟨rfl, rfl, _⟩ := hk
      rcases ss with _ | ⟨z, ss⟩ <;> simp at h
      simp [tyR, ha, h, Res.bind]
  | cons x y =>
    rcases done with _ | ⟨d, _ | ⟨d', done⟩⟩ <;> simp [Tm.kids] at hk
    · obtain ⟨rfl, _⟩ := hk
      simp [tyR, ha, Res.bind]
    · obtain ⟨rfl, rfl, _⟩ := hk
      rcases ss with _ | ⟨z, ss⟩ <;> simp at h
      simp [tyR, ha, h, Res.bind]
  | pair x y =>
    rcases done with _ | ⟨d, _ | ⟨d', done⟩⟩ <;> simp [Tm.kids] at hk
    · obtain ⟨rfl, _⟩ := hk
      simp [tyR, ha, Res.bind]
    · obtain ⟨rfl, rfl, _⟩ := hk
      rcases ss with _ | ⟨z, ss⟩ <;> simp at h
      simp [tyR, ha, h, Res.bind]
  | recn s x y z =>
    rcases done with _ | ⟨d, _ | ⟨d', _ | ⟨d'', done⟩⟩⟩ <;> simp [Tm.kids] at hk
    · obtain ⟨rfl, _⟩ := hk
      simp [tyR, ha, Res.bind]
    · obtain ⟨rfl, rfl, _⟩ := hk
      rcases ss with _ | ⟨z, ss⟩ <;> simp at h
      simp [tyR, ha, h, Res.bind]
    · obtain ⟨rfl, rfl, rfl, _⟩ := hk
      rcases ss with _ | ⟨z, _ | ⟨z', ss⟩⟩ <;> simp at h
      simp [tyR, ha, h, Res.bind]
  | fold s x y z =>
    rcases done with _ | ⟨d, _ | ⟨d', _ | ⟨d'', done⟩⟩⟩ <;> simp [Tm.kids] at hk
    · obtain ⟨rfl, _⟩ := hk
      simp [tyR, ha, Res.bind]
    · obtain ⟨rfl, rfl, _⟩ := hk
      rcases ss with _ | ⟨z, ss⟩ <;> simp at h
      simp [tyR, ha, h, Res.bind]
    · obtain ⟨rfl, rfl, rfl, _⟩ := hk
      rcases ss with _ | ⟨z, _ | ⟨z', ss⟩⟩ <;> simp at h
      simp [tyR, ha, h, Res.bind]
theorem bind_inr {r : Res} {f : Ty → Res} {e : Int} (h : r.bind f = .inr e) : r = .inr e ∨ ∃ x, r = .inl x ∧ f x = .inr e := by
  cases r with
  | inl x => exact .inr ⟨x, rfl, h⟩
  | inr e' => exact .inl h
theorem fit_err {s : Ty} {e : Int} (h : fit s = .inr e) : e ≠ 0 := by
  unfold fit at h
  split at h
  · cases h
  · cases h; decide
theorem ite_err {c : Prop} [Decidable c] {s : Ty} {e : Int} (h : (if c then (.inl s : Res) else .inr 7) = .inr e) : e ≠ 0 := by
  split at h
  · cases h
  · cases h; decide
theorem tyR_err (t : Tm) : ∀ {g : List Ty} {e : Int}, tyR g t = .inr e → e ≠ 0 := by
  induction t with
  | var i =>
    intro g e h
    simp only [tyR] at h
    split at h
    · cases h
    · cases h; decide
  | lam s b ih =>
    intro g e h
    rcases bind_inr h with h | ⟨x, _, h⟩
    · exact ih h
    · exact fit_err h
  | app f a ih1 ih2 =>
    intro g e h
    rcases bind_inr h with h | ⟨x, _, h⟩
    · exact ih1 h
    rcases bind_inr h with h | ⟨y, _, h⟩
    · exact ih2 h
    cases x with
    | fn s u => exact ite_err h
    | _ => cases h; decide
  | zero => intro g e h; cases h
  | nil => intro g e h; cases h
  | unit => intro g e h; cases h
  | succ a ih =>
    intro g e h
    rcases bind_inr h with h | ⟨x, _, h⟩
    · exact ih h
    · exact ite_err h
  | recn s b f n ih1 ih2 ih3 =>
    intro g e h
    rcases bind_inr h with h | ⟨x, _, h⟩
    · exact ih1 h
    rcases bind_inr h with h | ⟨y, _, h⟩
    · exact ih2 h
    rcases bind_inr h with h | ⟨z, _, h⟩
    · exact ih3 h
    · exact ite_err h
  | fold s b f n ih1 ih2 ih3 =>
    intro g e h
    rcases bind_inr h with h | ⟨x, _, h⟩
    · exact ih1 h
    rcases bind_inr h with h | ⟨y, _, h⟩
    · exact ih2 h
    rcases bind_inr h with h | ⟨z, _, h⟩
    · exact ih3 h
    · exact ite_err h
  | cons f a ih1 ih2 =>
    intro g e h
    rcases bind_inr h with h | ⟨x, _, h⟩
    · exact ih1 h
    rcases bind_inr h with h | ⟨y, _, h⟩
    · exact ih2 h
    · exact ite_err h
  | pair f a ih1 ih2 =>
    intro g e h
    rcases bind_inr h with h | ⟨x, _, h⟩
    · exact ih1 h
    rcases bind_inr h with h | ⟨y, _, h⟩
    · exact ih2 h
    · exact fit_err h
  | fst p ih =>
    intro g e h
    rcases bind_inr h with h | ⟨x, _, h⟩
    · exact ih h
    cases x <;> (cases h; try decide)
  | snd p ih =>
    intro g e h
    rcases bind_inr h with h | ⟨x, _, h⟩
    · exact ih h
    cases x <;> (cases h; try decide)
theorem fit_size {s u : Ty} (h : fit s = .inl u) : u.size ≤ 64 := by
  unfold fit at h
  split at h
  · cases h; assumption
  · cases h
/-- What is found is small. -/
theorem tyR_small (t : Tm) : ∀ {g : List Ty} {s : Ty}, (∀ u ∈ g, u.size ≤ 64) → t.small = true → tyR g t = .inl s → s.size ≤ 64 := by
  induction t with
  | var i =>
    intro g s hg _ h
    simp only [tyR] at h
    split at h
    · rename_i u hu
      cases h
      exact hg _ (List.mem_of_getElem? hu)
    · cases h
  | lam s b ih =>
    intro g u hg hs h
    obtain ⟨x, _, h2⟩ := bind_inl h
    exact fit_size h2
  | app f a ih1 ih2 =>
    intro g u hg hs h
    simp only [Tm.small, Bool.and_eq_true] at hs
    obtain ⟨x, h1, h2⟩ := bind_inl h
    obtain ⟨y, h3, h4⟩ := bind_inl h2
    cases x with
    | fn s v =>
      have := ih1 hg hs.1 h1
      simp only [Ty.size] at this
      simp only at h4
      split at h4
      · cases h4; omega
      · cases h4
    | _ => cases h4
  | zero => intro g s _ _ h; cases h; decide
  | nil => intro g s _ _ h; cases h; decide
  | unit => intro g s _ _ h; cases h; decide
  | succ a ih =>
    intro g u hg hs h
    obtain ⟨x, h1, h2⟩ := bind_inl h
    split at h2
    · cases h2; decide
    · cases h2
  | recn s b f n ih1 ih2 ih3 =>
    intro g u hg hs h
    simp only [Tm.small, Bool.and_eq_true, decide_eq_true_eq] at hs
    obtain ⟨x, h1, h2⟩ := bind_inl h
    obtain ⟨y, h3, h4⟩ := bind_inl h2
    obtain ⟨z, h5, h6⟩ := bind_inl h4
    split at h6
    · cases h6; exact hs.1.1.1
    · cases h6
  | cons b f ih1 ih2 =>
    intro g u hg hs h
    obtain ⟨x, h1, h2⟩ := bind_inl h
    obtain ⟨y, h3, h4⟩ := bind_inl h2
    split at h4
    · cases h4; decide
    · cases h4
  | fold s b f n ih1 ih2 ih3 =>
    intro g u hg hs h
    simp only [Tm.small, Bool.and_eq_true, decide_eq_true_eq] at hs
    obtain ⟨x, h1, h2⟩ := bind_inl h
    obtain ⟨y, h3, h4⟩ := bind_inl h2
    obtain ⟨z, h5, h6⟩ := bind_inl h4
    split at h6
    · cases h6; exact hs.1.1.1
    · cases h6
  | pair a b ih1 ih2 =>
    intro g u hg hs h
    obtain ⟨x, h1, h2⟩ := bind_inl h
    obtain ⟨y, h3, h4⟩ := bind_inl h2
    exact fit_size h4
  | fst p ih =>
    intro g u hg hs h
    obtain ⟨x, h1, h2⟩ := bind_inl h
    cases x with
    | pair s v =>
      have := ih hg hs h1
      simp only [Ty.size] at this
      simp only at h2; cases h2; omega
    | _ => cases h2
  | snd p ih =>
    intro g u hg hs h
    obtain ⟨x, h1, h2⟩ := bind_inl h
    cases x with
    | pair s v =>
      have := ih hg hs h1
      simp only [Ty.size] at this
      simp only at h2; cases h2; omega
    | _ => cases h2
end T
end Go.Proofs.YthclcchnodjjpaaGreatDoor
