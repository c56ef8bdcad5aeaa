/- RAW AND TYPED: what the checks say of raw types; types as raw ones. -/
import Derived.Test.YtgkdehfbeejlfaaRw
import Derived.Test.YtgkdehfbeejlfaaTh2
set_option linter.unusedVariables false
set_option linter.unusedSimpArgs false
namespace Go.Proofs.Ytgkdehfbeejlfaa
namespace M
open T (Ty Tm)

mutual
def RT.ok : RT → Bool
  | .mk k l => (decide ((k = 1 ∨ k = 2 ∨ k = 5) ∧ l.length = 0) || decide ((k = 3 ∨ k = 4) ∧ l.length = 2)) && RT.oks l
def RT.oks : List RT → Bool
  | [] => true
  | a :: l => a.ok && RT.oks l
end
theorem RT.ok_mk (k : Int) (l : List RT) : (RT.mk k l).ok = ((decide ((k = 1 ∨ k = 2 ∨ k = 5) ∧ l.length = 0) || decide ((k = 3 ∨ k = 4) ∧ l.length = 2)) && l.all RT.ok) := by
  have : ∀ l, RT.oks l = l.all RT.ok := fun l => by induction l with | nil => rfl | cons a l ih => simp [RT.oks, ih]
  rw [RT.ok, this]
/-- The number of a type's arguments, of a right kind. -/
def RT.want (k : Int) : Nat := if k = 3 ∨ k = 4 then 2 else 0
theorem RT.ok_bad {k : Int} {l : List RT} (h : ¬ (k = 1 ∨ k = 2 ∨ k = 5 ∨ k = 3 ∨ k = 4)) : (RT.mk k l).ok = false := by
  rw [RT.ok_mk]
  simp only [not_or] at h
  simp [h]
theorem RT.ok_len {k : Int} {l : List RT} (h : k = 1 ∨ k = 2 ∨ k = 5 ∨ k = 3 ∨ k = 4) (hl : l.length ≠ RT.want k) : (RT.mk k l).ok = false := by
  rw [RT.ok_mk]
  rcases h with rfl | rfl | rfl | rfl | rfl <;> simp_all [RT.want]
theorem RT.ok_all {k : Int} {l : List RT} (h : k = 1 ∨ k = 2 ∨ k = 5 ∨ k = 3 ∨ k = 4) (hl : l.length = RT.want k) : (RT.mk k l).ok = l.all RT.ok := by
  rw [RT.ok_mk]
  rcases h with rfl | rfl | rfl | rfl | rfl <;> simp_all [RT.want]
def RT.err (t : RT) : Int := if t.ok then (if t.nodes ≤ 64 then 0 else 4) else 2
theorem RT.err_ok {t : RT} (h : t.err = 0) : t.ok = true ∧ t.nodes ≤ 64 := by
  unfold RT.err at h
  split at h
  · split at h
    · exact ⟨by assumption, by assumption⟩
    · omega
  · omega
end M

namespace T
open M
def Ty.raw : Ty → RT
  | .nat => .mk 1 []
  | .list => .mk 2 []
  | .unit => .mk 5 []
  | .pair a b => .mk 3 [a.raw, b.raw]
  | .fn a b => .mk 4 [a.raw, b.raw]
def Ty.level : Ty → Nat
  | .nat | .list | .unit => 0
  | .pair a b => max a.level b.level
  | .fn a b => max (a.level + 1) b.level
theorem Ty.raw_ok (s : Ty) : s.raw.ok = true := by
  induction s <;> simp_all [Ty.raw, RT.ok_mk]
theorem Ty.raw_nodes (s : Ty) : s.raw.nodes = s.size := by
  induction s <;> simp_all [Ty.raw, RT.nodes_mk, Ty.size] <;> omega
theorem Ty.raw_inj : ∀ {s u : Ty}, s.raw = u.raw → s = u := by
  intro s
  induction s with
  | pair a b ih1 ih2 => intro u h; cases u <;> simp [Ty.raw] at h; rw [ih1 h.1, ih2 h.2]
  | fn a b ih1 ih2 => intro u h; cases u <;> simp [Ty.raw] at h; rw [ih1 h.1, ih2 h.2]
  | _ => intro u h; cases u <;> simp [Ty.raw] at h; rfl
theorem Ty.of_ok (t : RT) : t.ok = true → ∃ s : Ty, t = s.raw := by
  induction t using RT.ind with | h k l ih =>
  intro h
  rw [RT.ok_mk] at h
  simp only [Bool.and_eq_true, Bool.or_eq_true, decide_eq_true_eq, List.all_eq_true] at h
  obtain ⟨h1 | h1, h2⟩ := h
  · obtain ⟨hk, hl⟩ := h1
    have : l = [] := List.eq_nil_of_length_eq_zero hl
    subst this
    rcases hk with rfl | rfl | rfl
    · exact ⟨.nat, rfl⟩
    · exact ⟨.list, rfl⟩
    · exact ⟨.unit, rfl⟩
  · obtain ⟨hk, hl⟩ := h1
    obtain ⟨a, b, rfl⟩ : ∃ a b, l = [a, b] := by
      match l, hl with
      | [a, b], _ => exact ⟨a, b, rfl⟩
    obtain ⟨s, rfl⟩ := ih a (by simp) (h2 a (by simp))
    obtain ⟨u, rfl⟩ := ih b (by simp) (h2 b (by simp))
    rcases hk with rfl | rfl
    · exact ⟨.pair s u, rfl⟩
    · exact ⟨.fn s u, rfl⟩
theorem Ty.raw_err (s : Ty) (h : s.size ≤ 64) : s.raw.err = 0 := by simp [RT.err, s.raw_ok, s.raw_nodes, h]
theorem Ty.level_size (s : Ty) : s.level < s.size := by induction s <;> simp only [Ty.level, Ty.size] <;> omega
end T
end Go.Proofs.Ytgkdehfbeejlfaa
