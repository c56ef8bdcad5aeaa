/- A part of the proof: Vr. -/
import Derived.Test.YthclcchnodjjpaaGreatDoorG20
/- PLAIN VALUES: as raw ones; their types, their bounds. -/
set_option linter.unusedVariables false
set_option linter.unusedSimpArgs false
namespace Go.Proofs.YthclcchnodjjpaaGreatDoor
namespace M
open T (V Ty Tm noTy VT VB back Maj)
/-- A plain value. -/
def V.rv : V → RV
  | .num n => .mk 1 n [] []
  | .list l => .mk 2 0 (l.map Int.ofNat) []
  | .pair a b => .mk 3 0 [] [V.rv a, V.rv b]
  | .unit => .mk 4 0 [] []
  | .clo _ _ => .mk 0 0 [] []
@[simp] theorem V.rv_num (n : Nat) : V.rv (.num n) = .mk 1 n [] [] := by simp only [V.rv]
@[simp] theorem V.rv_list (l : List Nat) : V.rv (.list l) = .mk 2 0 (l.map Int.ofNat) [] := by simp only [V.rv]
@[simp] theorem V.rv_pair (a b : V) : V.rv (.pair a b) = .mk 3 0 [] [V.rv a, V.rv b] := by simp only [V.rv]
@[simp] theorem V.rv_unit : V.rv .unit = .mk 4 0 [] [] := by simp only [V.rv]
/-- A value without functions, in a data type. -/
inductive VD : Ty → V → Prop where
  | num (n : Nat) : VD .nat (.num n)
  | list (l : List Nat) : VD .list (.list l)
  | unit : VD .unit .unit
  | pair {s u : Ty} {a b : V} : VD s a → VD u b → VD (.pair s u) (.pair a b)
theorem VD.vt {s : Ty} {v : V} (h : VD s v) : VT s v := by
  induction h with
  | num n => exact .num n
  | list l => exact .list l
  | unit => exact .unit
  | pair _ _ ih1 ih2 => exact .pair ih1 ih2
theorem VD.data {s : Ty} {v : V} (h : VD s v) : s.data = true := by
  induction h with
  | pair _ _ ih1 ih2 => simp [Ty.data, ih1, ih2]
  | _ => rfl
theorem VT.vd : ∀ {s : Ty} {v : V}, VT s v → s.data = true → VD s v := by
  intro s
  induction s with
  | nat => intro v h _; cases h; exact .num _
  | list => intro v h _; cases h; exact .list _
  | unit => intro v h _; cases h; exact .unit
  | pair s u ih1 ih2 =>
    intro v h hd
    simp only [Ty.data, Bool.and_eq_true] at hd
    cases h with
    | pair h1 h2 => exact .pair (ih1 h1 hd.1) (ih2 h2 hd.2)
  | fn s u _ _ => intro v h hd; simp [Ty.data] at hd
/-- The greatest number of a list, at least its length. -/
def maxL (k : Nat) : List Nat → Nat
  | [] => k
  | x :: l => maxL (max k x) l
theorem maxL_le {k b : Nat} : ∀ {l : List Nat}, k ≤ b → (∀ x ∈ l, x ≤ b) → maxL k l ≤ b
  | [], h, _ => h
  | x :: l, h, hx => maxL_le (l := l) (by have := hx x (by simp); omega) (fun y hy => hx y (by simp [hy]))
theorem le_maxL : ∀ {k : Nat} (l : List Nat), k ≤ maxL k l
  | k, [] => Nat.le_refl _
  | k, x :: l => by have := le_maxL (k := max k x) l; simp only [maxL]; omega
theorem mem_maxL : ∀ {k : Nat} {l : List Nat} {x : Nat}, x ∈ l → x ≤ maxL k l
  | k, y :: l, x, h => by
    simp only [maxL]
    rcases List.mem_cons.1 h with rfl | h
    · have := le_maxL (k := max k x) l; omega
    · exact mem_maxL h
/-- The least bound of a value. -/
def V.bnd : V → V
  | .list l => .num (maxL l.length l)
  | .pair a b => .pair (V.bnd a) (V.bnd b)
  | v => v
theorem V.bnd_num (n : Nat) : V.bnd (.num n) = .num n := by simp only [V.bnd]
theorem V.bnd_unit : V.bnd .unit = .unit := by simp only [V.bnd]
theorem V.bnd_list (l : List Nat) : V.bnd (.list l) = .num (maxL l.length l) := by simp only [V.bnd]
theorem V.bnd_pair (a b : V) : V.bnd (.pair a b) = .pair (V.bnd a) (V.bnd b) := by simp only [V.bnd]
theorem VD.bnd {s : Ty} {v : V} (h : VD s v) : VD s.star (V.bnd v) := by
  induction h with
  | num n => rw [V.bnd_num]; exact .num n
  | list l => rw [V.bnd_list]; exact .num _
  | unit => rw [V.bnd_unit]; exact .unit
  | pair _ _ ih1 ih2 => rw [V.bnd_pair]; exact .pair ih1 ih2
/-- One value bounds another one. -/
def V.over : V → V → Bool
  | .num a, .num b => decide (b ≤ a)
  | .num a, .list l => decide (maxL l.length l ≤ a)
  | .pair a b, .pair c d => V.over a c && V.over b d
  | .unit, .unit => true
  | _, _ => false
/-- Numbers of a value are small. -/
inductive VN (C : Nat) : V → Prop where
  | num {n : Nat} : n ≤ C → VN C (.num n)
  | list {l : List Nat} : l.length ≤ C → (∀ x ∈ l, x ≤ C) → VN C (.list l)
  | unit : VN C .unit
  | pair {a b : V} : VN C a → VN C b → VN C (.pair a b)
theorem VB.vn {C : Nat} {s : Ty} {v : V} (h : VD s v) (hb : VB C v) : VN C v := by
  induction h with
  | num n => cases hb; exact .num (by assumption)
  | list l => cases hb; exact .list (by assumption) (by assumption)
  | unit => exact .unit
  | pair _ _ ih1 ih2 => cases hb with | pair h1 h2 => exact .pair (ih1 h1) (ih2 h2)
theorem VN.vb {C : Nat} {v : V} (h : VN C v) : VB C v := by
  induction h with
  | num h => exact .num h
  | list h1 h2 => exact .list h1 h2
  | unit => exact .unit
  | pair _ _ ih1 ih2 => exact .pair ih1 ih2
theorem VN.mono {C D : Nat} (h : C ≤ D) {v : V} (hv : VN C v) : VN D v := by
  induction hv with
  | num h1 => exact .num (by omega)
  | list h1 h2 => exact .list (by omega) (fun x hx => by have := h2 x hx; omega)
  | unit => exact .unit
  | pair _ _ ih1 ih2 => exact .pair ih1 ih2
theorem VN.bnd {C : Nat} {v : V} (h : VN C v) : VN C (V.bnd v) := by
  induction h with
  | num h => rw [V.bnd_num]; exact .num h
  | list h1 h2 => rw [V.bnd_list]; exact .num (maxL_le h1 h2)
  | unit => rw [V.bnd_unit]; exact .unit
  | pair _ _ ih1 ih2 => rw [V.bnd_pair]; exact .pair ih1 ih2

/-! ### What the meanings say of it -/
theorem back_vd : ∀ (s : Ty) (d : s.den), s.data = true → VD s (back s d)
  | .nat, d, _ => .num d
  | .list, d, _ => .list d
  | .unit, _, _ => .unit
  | .pair s u, d, h => by simp only [Ty.data, Bool.and_eq_true] at h; exact .pair (back_vd s _ h.1) (back_vd u _ h.2)
  | .fn _ _, _, h => by simp [Ty.data] at h
theorem vd_back {s : Ty} {v : V} (h : VD s v) : ∃ d : s.den, v = back s d := by
  induction h with
  | num n => exact ⟨(n : Nat), rfl⟩
  | list l => exact ⟨(l : List Nat), rfl⟩
  | unit => exact ⟨(), rfl⟩
  | pair _ _ ih1 ih2 =>
    obtain ⟨d1, rfl⟩ := ih1
    obtain ⟨d2, rfl⟩ := ih2
    exact ⟨(d1, d2), rfl⟩
theorem over_list (a : Nat) (d : List Nat) : V.over (.num a) (.list d) = true ↔ (d.length ≤ a ∧ ∀ x ∈ d, x ≤ a) := by
  simp only [V.over, decide_eq_true_eq]
  constructor
  · intro h
    exact ⟨Nat.le_trans (le_maxL _) h, fun x hx => Nat.le_trans (mem_maxL hx) h⟩
  · rintro ⟨h1, h2⟩
    exact maxL_le h1 h2
theorem over_maj : ∀ (s : Ty) (a : s.star.den) (d : s.den), s.data = true → (V.over (back s.star a) (back s d) = true ↔ Maj s a d)
  | .nat, a, d, _ => by simp [back, V.over, Maj, Ty.star]
  | .list, a, d, _ => over_list a d
  | .unit, a, d, _ => by simp [back, V.over, Maj, Ty.star]
  | .pair s u, a, d, h => by
    simp only [Ty.data, Bool.and_eq_true] at h
    simp only [Ty.star, back, V.over, Maj, Bool.and_eq_true]
    rw [over_maj s a.1 d.1 h.1, over_maj u a.2 d.2 h.2]
  | .fn _ _, _, _, h => by simp [Ty.data] at h
theorem bnd_maj : ∀ (s : Ty) (d : s.den), s.data = true → ∃ a : s.star.den, V.bnd (back s d) = back s.star a ∧ Maj s a d
  | .nat, d, _ => ⟨d, V.bnd_num _, Nat.le_refl _⟩
  | .list, d, _ => ⟨(maxL (List.length d) d : Nat), V.bnd_list _, le_maxL _, fun x hx => mem_maxL hx⟩
  | .unit, d, _ => ⟨(), V.bnd_unit, trivial⟩
  | .pair s u, d, h => by
    simp only [Ty.data, Bool.and_eq_true] at h
    obtain ⟨a, h1, h2⟩ := bnd_maj s d.1 h.1
    obtain ⟨b, h3, h4⟩ := bnd_maj u d.2 h.2
    exact ⟨(a, b), by simp only [back, V.bnd_pair, h1, h3, Ty.star], h2, h4⟩
  | .fn _ _, _, h => by simp [Ty.data] at h
end M
end Go.Proofs.YthclcchnodjjpaaGreatDoor
