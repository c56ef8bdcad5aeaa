/- A part of the proof: PtA, PtB. -/
import Derived.Test.YthclcchnodjjpaaGreatDoorG12
import Derived.Test.YthclcchnodjjpaaGreatDoorG10
import Derived.Test.YthclcchnodjjpaaGreatDoorG14
import Derived.Test.YthclcchnodjjpaaGreatDoorG20
/- ref03: below, Least, Times, Up, In; ref02.Same of a term with itself. -/
set_option linter.unusedVariables false
set_option linter.unusedSimpArgs false
set_option maxRecDepth 10000
set_option maxHeartbeats 4000000
namespace Go.Proofs.YthclcchnodjjpaaGreatDoor
namespace M
attribute [local irreducible] Wp thenK blockK endK
variable {E : Oracle}
open T (Ty Tm noTy)
attribute [local simp] noTy
/-- How many variables a kind binds. -/
def belowI (k : Int) : Int := if k = 2 then 1 else 0
theorem below3 (t : RM) : den X E 107 [t.enc] [] = some (.int .i64 (belowI t.k), []) := by
  by_cases h : t.k = 2
  · have hb : belowI t.k = 1 := by simp [belowI, h]
    rw [hb]
    refine den_w0 (fn := Tryz.f107) (by rfl) (by rfl) (by kernel_rfl) rfl (by rfl) ?_
    simp -implicitDefEqProofs
    (repeat (first | refine Wp.seq ?_ | refine Wp.block ?_ | refine Wp.skip ?_ | refine Wp.exit ?_ | refine Wp.ret ?_ | refine thenK_n ?_ | refine thenK_r ?_ | refine thenK_e ?_ | refine blockK_n ?_ | refine blockK_r ?_ | refine blockK_e ?_ | refine blockK_o (by decide) ?_ | (refine Wp.condT ?_ ?_; focus (simp -implicitDefEqProofs [h] <;> fail)) | (refine Wp.condF ?_ ?_; focus (simp -implicitDefEqProofs [h] <;> fail)) | refine Wp.reg (by simp -implicitDefEqProofs [h]; exact ⟨rfl, rfl⟩) ?_ | refine Wp.regA (by simp -implicitDefEqProofs [h]; exact ⟨rfl, rfl⟩) (by rfl) ?_))
    (apply endK_r; (focus (simp -implicitDefEqProofs [Tryz.f107]; try rfl)); (focus (intro g; simp -implicitDefEqProofs [Tryz.f107])); exact ⟨_, rfl⟩)
  · have hb : belowI t.k = 0 := by simp [belowI, h]
    rw [hb]
    refine den_w0 (fn := Tryz.f107) (by rfl) (by rfl) (by kernel_rfl) rfl (by rfl) ?_
    simp -implicitDefEqProofs
    (repeat (first | refine Wp.seq ?_ | refine Wp.block ?_ | refine Wp.skip ?_ | refine Wp.exit ?_ | refine Wp.ret ?_ | refine thenK_n ?_ | refine thenK_r ?_ | refine thenK_e ?_ | refine blockK_n ?_ | refine blockK_r ?_ | refine blockK_e ?_ | refine blockK_o (by decide) ?_ | (refine Wp.condT ?_ ?_; focus (simp -implicitDefEqProofs [h] <;> fail)) | (refine Wp.condF ?_ ?_; focus (simp -implicitDefEqProofs [h] <;> fail)) | refine Wp.reg (by simp -implicitDefEqProofs [h]; exact ⟨rfl, rfl⟩) ?_ | refine Wp.regA (by simp -implicitDefEqProofs [h]; exact ⟨rfl, rfl⟩) (by rfl) ?_))
    (apply endK_r; (focus (simp -implicitDefEqProofs [Tryz.f107]; try rfl)); (focus (intro g; simp -implicitDefEqProofs [Tryz.f107])); exact ⟨_, rfl⟩)
theorem below3_c (k i m : Int) (us : List RT) (ts : List RM) (g : Nat) (S : St) (o1 o2 : Own) : callT (X.at g) (den X E) S 107 [.agg [.int .i64 k, .int .i64 i, .int .i64 m, .sl (List.map RT.cells us) o1, .sl (List.map RM.cells ts) o2]] = some (.int .i64 (belowI k), S) := by
  simpa using call_up (cf := X.at g) (fn := Tryz.f107) (args' := [.agg [.int .i64 k, .int .i64 i, .int .i64 m, .sl (List.map RT.cells us) o1, .sl (List.map RM.cells ts) o2]]) (by kernel_rfl) (by simp) (by simp; try rfl) (below3 (.mk k i (.mk m us) ts)) S
theorem least3 (b : Int) (t : RM) (ht : t.nodes ≤ 1000000000) : den X E 75 [t.enc, .int .i64 b] [] = some (.bool (t.near b), []) := by
  induction t using RM.ind with | h k i t l ih =>
  have ihc : ∀ a ∈ l, ∀ (g : Nat) (S : St) (o1 o2 : Own), callT (X.at g) (den X E) S 75 [.agg [.int .i64 a.k, .int .i64 a.i, .int .i64 a.ty.k, .sl (List.map RT.cells a.ty.as) o1, .sl (List.map RM.cells a.as) o2], .int .i64 b] = some (.bool (a.near b), S) := by
    intros
    simpa using call_up (cf := X.at _) (fn := Tryz.f75) (args' := [_, _]) (by kernel_rfl) (by simp) (by simp; try rfl) (ih _ (by assumption) (by have := RM.nodes_mem (k := k) (i := i) (t := t) (l := l) (by assumption); omega)) _
  have hlen := RM.nodes_len k i t l
  have hmk := RM.near_mk b k i t l
  refine den_w0 (fn := Tryz.f75) (by rfl) (by rfl) (by kernel_rfl) rfl (by rfl) ?_
  simp -implicitDefEqProofs
  by_cases hi : b < i
  · have hi' : ¬ i ≤ b := by omega
    simp [hi'] at hmk
    (repeat (first | refine Wp.seq ?_ | refine Wp.block ?_ | refine Wp.skip ?_ | refine Wp.exit ?_ | refine Wp.ret ?_ | refine thenK_n ?_ | refine thenK_r ?_ | refine thenK_e ?_ | refine blockK_n ?_ | refine blockK_r ?_ | refine blockK_e ?_ | refine blockK_o (by decide) ?_ | (refine Wp.condT ?_ ?_; focus (simp -implicitDefEqProofs [hi] <;> fail)) | (refine Wp.condF ?_ ?_; focus (simp -implicitDefEqProofs [hi] <;> fail)) | refine Wp.reg (by simp -implicitDefEqProofs [hi]; exact ⟨rfl, rfl⟩) ?_ | refine Wp.regA (by simp -implicitDefEqProofs [hi]; exact ⟨rfl, rfl⟩) (by rfl) ?_))
    (apply endK_r; (focus (simp -implicitDefEqProofs [Tryz.f75, hmk]; try rfl)); (focus (intro g; simp -implicitDefEqProofs [Tryz.f75, hmk])); exact ⟨_, rfl⟩)
  have hi' : i ≤ b := by omega
  simp only [hi', decide_true, Bool.true_and] at hmk
  (repeat (first | refine Wp.seq ?_ | refine Wp.block ?_ | refine Wp.skip ?_ | refine Wp.exit ?_ | refine Wp.ret ?_ | refine thenK_n ?_ | refine thenK_r ?_ | refine thenK_e ?_ | refine blockK_n ?_ | refine blockK_r ?_ | refine blockK_e ?_ | refine blockK_o (by decide) ?_ | (refine Wp.condT ?_ ?_; focus (simp -implicitDefEqProofs [hi] <;> fail)) | (refine Wp.condF ?_ ?_; focus (simp -implicitDefEqProofs [hi] <;> fail)) | refine Wp.reg (by simp -implicitDefEqProofs [hi]; exact ⟨rfl, rfl⟩) ?_ | refine Wp.regA (by simp -implicitDefEqProofs [hi]; exact ⟨rfl, rfl⟩) (by rfl) ?_))
  refine Wp.loopF [4, 6, 14, 15, 16, 17, 18, 19, 20, 21, 22] [] (fun n w c tk => ∃ done rest, l = done ++ rest ∧ n = rest.length ∧ w 14 = .int .i64 done.length ∧ done.all (RM.near b) = true) (l.length) ?_ ?_ ?_ ?_
  · rfl
  · rfl
  · exact ⟨[], l, by simp, rfl, rfl, rfl⟩
  rintro n w c junk tk r σ ⟨done, rest, hl, rfl, hix, hall⟩ hr hσ
  simp -implicitDefEqProofs [hix] at hr hσ
  subst hr hσ
  rcases rest with _ | ⟨a, rest⟩
  rotate_left
  · have ha : el l done.length = some a := by simp [hl]
    have hlt : done.length < l.length := by simp [hl]
    have hmem : a ∈ l := by simp [hl]
    have hw : IntKind.i64.wrap ((done.length : Int) + 1) = done.length + 1 := IntWalk.i64_in _ (by omega)
    cases hP : (RM.near b) a with
    | false =>
      have hall : l.all (RM.near b) = false := by rw [hl]; simp [hP]
      (repeat (first | refine Wp.seq ?_ | refine Wp.block ?_ | refine Wp.skip ?_ | refine Wp.exit ?_ | refine Wp.ret ?_ | refine thenK_n ?_ | refine thenK_r ?_ | refine thenK_e ?_ | refine blockK_n ?_ | refine blockK_r ?_ | refine blockK_e ?_ | refine blockK_o (by decide) ?_ | (refine Wp.condT ?_ ?_; focus (simp -implicitDefEqProofs [ha, hlt, hw, hP, ihc a hmem] <;> fail)) | (refine Wp.condF ?_ ?_; focus (simp -implicitDefEqProofs [ha, hlt, hw, hP, ihc a hmem] <;> fail)) | refine Wp.reg (by simp -implicitDefEqProofs [ha, hlt, hw, hP, ihc a hmem]; exact ⟨rfl, rfl⟩) ?_ | refine Wp.regA (by simp -implicitDefEqProofs [ha, hlt, hw, hP, ihc a hmem]; exact ⟨rfl, rfl⟩) (by rfl) ?_))
      (apply endK_r; (focus (simp -implicitDefEqProofs [Tryz.f75, hmk, hall]; try rfl)); (focus (intro g; simp -implicitDefEqProofs [Tryz.f75, hmk, hall])); exact ⟨_, rfl⟩)
    | true =>
      (repeat (first | refine Wp.seq ?_ | refine Wp.block ?_ | refine Wp.skip ?_ | refine Wp.exit ?_ | refine Wp.ret ?_ | refine thenK_n ?_ | refine thenK_r ?_ | refine thenK_e ?_ | refine blockK_n ?_ | refine blockK_r ?_ | refine blockK_e ?_ | refine blockK_o (by decide) ?_ | (refine Wp.condT ?_ ?_; focus (simp -implicitDefEqProofs [ha, hlt, hw, hP, ihc a hmem] <;> fail)) | (refine Wp.condF ?_ ?_; focus (simp -implicitDefEqProofs [ha, hlt, hw, hP, ihc a hmem] <;> fail)) | refine Wp.reg (by simp -implicitDefEqProofs [ha, hlt, hw, hP, ihc a hmem]; exact ⟨rfl, rfl⟩) ?_ | refine Wp.regA (by simp -implicitDefEqProofs [ha, hlt, hw, hP, ihc a hmem]; exact ⟨rfl, rfl⟩) (by rfl) ?_))
      refine ⟨by simp, ⟨_, by simp -implicitDefEqProofs; rfl⟩, rest.length, by simp, done ++ [a], rest, by simp [hl], rfl, by simp, by simp [hall, hP]⟩
  simp at hl
  subst hl
  (repeat (first | refine Wp.seq ?_ | refine Wp.block ?_ | refine Wp.skip ?_ | refine Wp.exit ?_ | refine Wp.ret ?_ | refine thenK_n ?_ | refine thenK_r ?_ | refine thenK_e ?_ | refine blockK_n ?_ | refine blockK_r ?_ | refine blockK_e ?_ | refine blockK_o (by decide) ?_ | (refine Wp.condT ?_ ?_; focus (simp -implicitDefEqProofs <;> fail)) | (refine Wp.condF ?_ ?_; focus (simp -implicitDefEqProofs <;> fail)) | refine Wp.reg (by simp -implicitDefEqProofs; exact ⟨rfl, rfl⟩) ?_ | refine Wp.regA (by simp -implicitDefEqProofs; exact ⟨rfl, rfl⟩) (by rfl) ?_))
  (apply endK_r; (focus (simp -implicitDefEqProofs [Tryz.f75, hmk, hall]; try rfl)); (focus (intro g; simp -implicitDefEqProofs [Tryz.f75, hmk, hall])); exact ⟨_, rfl⟩)
theorem least3_c {k i m b : Int} {us : List RT} {ts : List RM} (ht : (RM.mk k i (.mk m us) ts).nodes ≤ 1000000000) (g : Nat) (S : St) (o1 o2 : Own) : callT (X.at g) (den X E) S 75 [.agg [.int .i64 k, .int .i64 i, .int .i64 m, .sl (List.map RT.cells us) o1, .sl (List.map RM.cells ts) o2], .int .i64 b] = some (.bool ((RM.mk k i (.mk m us) ts).near b), S) := by
  simpa using call_up (cf := X.at g) (fn := Tryz.f75) (args' := [.agg [.int .i64 k, .int .i64 i, .int .i64 m, .sl (List.map RT.cells us) o1, .sl (List.map RM.cells ts) o2], .int .i64 b]) (by kernel_rfl) (by simp) (by simp; try rfl) (least3 b (.mk k i (.mk m us) ts) ht) S

mutual
/-- How often a variable is free in a term. -/
def RM.times : RM → Int → Nat
  | .mk k i _ l, c => (if k = 1 ∧ i = c then 1 else 0) + RM.timess l (if k = 2 then c + 1 else c)
def RM.timess : List RM → Int → Nat
  | [], _ => 0
  | a :: l, c => a.times c + RM.timess l c
end
theorem RM.times_mk (k i c : Int) (t : RT) (l : List RM) : (RM.mk k i t l).times c = (if k = 1 ∧ i = c then 1 else 0) + (l.map fun a => a.times (if k = 2 then c + 1 else c)).sum := by
  have : ∀ (l : List RM) c, RM.timess l c = (l.map fun a => a.times c).sum := fun l c => by induction l with | nil => rfl | cons a l ih => simp [RM.timess, ih]
  rw [RM.times, this]
theorem RM.times_le (t : RM) : ∀ c, t.times c ≤ t.count := by
  induction t using RM.ind with | h k i t l ih =>
  intro c
  rw [RM.times_mk, RM.count_mk]
  have := sum_le (fun a => RM.times a (if k = 2 then c + 1 else c)) RM.count fun a ha => ih a ha _
  split <;> omega
theorem times3 (t : RM) : ∀ z : Int, t.nodes ≤ 1000000000 → 0 ≤ z → z + t.nodes ≤ 10000000000 → den X E 77 [t.enc, .int .i64 z] [] = some (.int .i64 (t.times z), []) := by
  induction t using RM.ind with | h k i t l ih =>
  intro z ht hc0 hc
  have hlen := RM.nodes_len k i t l
  have hmk := RM.times_mk k i z t l
  have hle := RM.times_le (.mk k i t l) z
  have hcl := RM.count_le (.mk k i t l)
  rw [hmk] at hle
  have hle' : (if k = 1 ∧ i = z then 1 else 0) + (l.map fun a => a.times (if k = 2 then z + 1 else z)).sum ≤ 1000000000 := by omega
  clear hle hcl
  have hw1 : IntKind.i64.wrap (z + 1) = z + 1 := IntWalk.i64_in _ (by omega)
  have hwz : IntKind.i64.wrap z = z := IntWalk.i64_in _ (by omega)
  have ihc : ∀ a ∈ l, ∀ (g : Nat) (S : St) (o1 o2 : Own), callT (X.at g) (den X E) S 77 [.agg [.int .i64 a.k, .int .i64 a.i, .int .i64 a.ty.k, .sl (List.map RT.cells a.ty.as) o1, .sl (List.map RM.cells a.as) o2], .int .i64 (if k = 2 then z + 1 else z)] = some (.int .i64 (RM.times a (if k = 2 then z + 1 else z)), S) := by
    intros
    simpa using call_up (cf := X.at _) (fn := Tryz.f77) (args' := [_, _]) (by kernel_rfl) (by simp) (by simp; try rfl) (ih _ (by assumption) _ (by have := RM.nodes_mem (k := k) (i := i) (t := t) (l := l) (by assumption); omega) (by split <;> omega) (by have := RM.nodes_mem (k := k) (i := i) (t := t) (l := l) (by assumption); split <;> omega)) _
  have cb := below3_c (E := E) k i t.k t.as l
  have hwo : IntKind.i64.wrap 1 = 1 := by decide
  rw [hmk]
  by_cases hk2 : k = 2
  · have hk1 : ¬ (k = 1 ∧ i = z) := by omega
    simp only [hk2, if_true] at ihc hle'
    have hcb : belowI k = 1 := by simp [belowI, hk2]
    rw [hcb, hk2] at cb
    simp only [if_neg hk1, hk2, if_true]
    refine den_w0 (fn := Tryz.f77) (by rfl) (by rfl) (by kernel_rfl) rfl (by rfl) ?_
    simp -implicitDefEqProofs
    (repeat (first | refine Wp.seq ?_ | refine Wp.block ?_ | refine Wp.skip ?_ | refine Wp.exit ?_ | refine Wp.ret ?_ | refine thenK_n ?_ | refine thenK_r ?_ | refine thenK_e ?_ | refine blockK_n ?_ | refine blockK_r ?_ | refine blockK_e ?_ | refine blockK_o (by decide) ?_ | (refine Wp.condT ?_ ?_; focus (simp -implicitDefEqProofs <;> fail)) | (refine Wp.condF ?_ ?_; focus (simp -implicitDefEqProofs <;> fail)) | refine Wp.reg (by simp -implicitDefEqProofs; exact ⟨rfl, rfl⟩) ?_ | refine Wp.regA (by simp -implicitDefEqProofs; exact ⟨rfl, rfl⟩) (by rfl) ?_))
    refine Wp.loopF [5, 7, 22, 23, 24, 25, 26, 27, 28, 29, 30, 31, 32, 33, 34] [] (fun n w c tk => ∃ done rest, l = done ++ rest ∧ n = rest.length ∧ w 22 = .int .i64 done.length ∧ w 5 = .int .i64 (0 + (List.map (fun a => RM.times a (z + 1)) done).sum : Nat)) (l.length) ?_ ?_ ?_ ?_
    · rfl
    · rfl
    · exact ⟨[], l, by simp, rfl, rfl, rfl⟩
    rintro n w c junk tk r σ ⟨done, rest, hl, rfl, hix, hacc⟩ hr hσ
    simp -implicitDefEqProofs [hix, hacc] at hr hσ
    subst hr hσ
    rcases rest with _ | ⟨a, rest⟩
    rotate_left
    · have ha : el l done.length = some a := by simp [hl]
      have hlt : done.length < l.length := by simp [hl]
      have hmem : a ∈ l := by simp [hl]
      have hw : IntKind.i64.wrap ((done.length : Int) + 1) = done.length + 1 := IntWalk.i64_in _ (by omega)
      have hs : (List.map (fun a => RM.times a (z + 1)) l).sum = (List.map (fun a => RM.times a (z + 1)) done).sum + (fun a => RM.times a (z + 1)) a + (List.map (fun a => RM.times a (z + 1)) rest).sum := by rw [hl]; simp; omega
      have hws : IntKind.i64.wrap ((0 : Int) + (List.map (fun a => RM.times a (z + 1)) done).sum + (fun a => RM.times a (z + 1)) a) = 0 + (List.map (fun a => RM.times a (z + 1)) done).sum + (fun a => RM.times a (z + 1)) a := IntWalk.i64_in _ (by omega)
      simp only at hs
      have hws2 : IntKind.i64.wrap (((List.map (fun a => RM.times a (z + 1)) done).sum : Int) + (RM.times a (z + 1) : Int)) = (List.map (fun a => RM.times a (z + 1)) done).sum + (RM.times a (z + 1) : Int) := IntWalk.i64_in _ (by omega)
      (repeat (first | refine Wp.seq ?_ | refine Wp.block ?_ | refine Wp.skip ?_ | refine Wp.exit ?_ | refine Wp.ret ?_ | refine thenK_n ?_ | refine thenK_r ?_ | refine thenK_e ?_ | refine blockK_n ?_ | refine blockK_r ?_ | refine blockK_e ?_ | refine blockK_o (by decide) ?_ | (refine Wp.condT ?_ ?_; focus (simp -implicitDefEqProofs [ha, hlt, hw, hws, ihc a hmem, hws2, cb, hw1] <;> fail)) | (refine Wp.condF ?_ ?_; focus (simp -implicitDefEqProofs [ha, hlt, hw, hws, ihc a hmem, hws2, cb, hw1] <;> fail)) | refine Wp.reg (by simp -implicitDefEqProofs [ha, hlt, hw, hws, ihc a hmem, hws2, cb, hw1]; exact ⟨rfl, rfl⟩) ?_ | refine Wp.regA (by simp -implicitDefEqProofs [ha, hlt, hw, hws, ihc a hmem, hws2, cb, hw1]; exact ⟨rfl, rfl⟩) (by rfl) ?_))
      refine ⟨by simp, ⟨_, by simp -implicitDefEqProofs; rfl⟩, rest.length, by simp, done ++ [a], rest, by simp [hl], rfl, by simp, by simp; try omega⟩
    simp at hl
    subst hl
    (repeat (first | refine Wp.seq ?_ | refine Wp.block ?_ | refine Wp.skip ?_ | refine Wp.exit ?_ | refine Wp.ret ?_ | refine thenK_n ?_ | refine thenK_r ?_ | refine thenK_e ?_ | refine blockK_n ?_ | refine blockK_r ?_ | refine blockK_e ?_ | refine blockK_o (by decide) ?_ | (refine Wp.condT ?_ ?_; focus (simp -implicitDefEqProofs <;> fail)) | (refine Wp.condF ?_ ?_; focus (simp -implicitDefEqProofs <;> fail)) | refine Wp.reg (by simp -implicitDefEqProofs; exact ⟨rfl, rfl⟩) ?_ | refine Wp.regA (by simp -implicitDefEqProofs; exact ⟨rfl, rfl⟩) (by rfl) ?_))
    (apply endK_r; (focus (simp -implicitDefEqProofs [Tryz.f77]; try rfl)); (focus (intro g; simp -implicitDefEqProofs [Tryz.f77])); exact ⟨_, rfl⟩)
  · simp only [hk2, if_false] at ihc hle'
    have hcb : belowI k = 0 := by simp [belowI, hk2]
    rw [hcb] at cb
    simp only [if_neg hk2]
    by_cases hk1 : k = 1
    · by_cases hiz : i = z
      · simp only [hk1, hiz, and_self, if_true] at hle' cb ⊢
        refine den_w0 (fn := Tryz.f77) (by rfl) (by rfl) (by kernel_rfl) rfl (by rfl) ?_
        simp -implicitDefEqProofs
        (repeat (first | refine Wp.seq ?_ | refine Wp.block ?_ | refine Wp.skip ?_ | refine Wp.exit ?_ | refine Wp.ret ?_ | refine thenK_n ?_ | refine thenK_r ?_ | refine thenK_e ?_ | refine blockK_n ?_ | refine blockK_r ?_ | refine blockK_e ?_ | refine blockK_o (by decide) ?_ | (refine Wp.condT ?_ ?_; focus (simp -implicitDefEqProofs [hwo] <;> fail)) | (refine Wp.condF ?_ ?_; focus (simp -implicitDefEqProofs [hwo] <;> fail)) | refine Wp.reg (by simp -implicitDefEqProofs [hwo]; exact ⟨rfl, rfl⟩) ?_ | refine Wp.regA (by simp -implicitDefEqProofs [hwo]; exact ⟨rfl, rfl⟩) (by rfl) ?_))
        refine Wp.loopF [5, 7, 22, 23, 24, 25, 26, 27, 28, 29, 30, 31, 32, 33, 34] [] (fun n w c tk => ∃ done rest, l = done ++ rest ∧ n = rest.length ∧ w 22 = .int .i64 done.length ∧ w 5 = .int .i64 (1 + (List.map (fun a => RM.times a z) done).sum : Nat)) (l.length) ?_ ?_ ?_ ?_
        · rfl
        · rfl
        · exact ⟨[], l, by simp, rfl, rfl, rfl⟩
        rintro n w c junk tk r σ ⟨done, rest, hl, rfl, hix, hacc⟩ hr hσ
        simp -implicitDefEqProofs [hix, hacc] at hr hσ
        subst hr hσ
        rcases rest with _ | ⟨a, rest⟩
        rotate_left
        · have ha : el l done.length = some a := by simp [hl]
          have hlt : done.length < l.length := by simp [hl]
          have hmem : a ∈ l := by simp [hl]
          have hw : IntKind.i64.wrap ((done.length : Int) + 1) = done.length + 1 := IntWalk.i64_in _ (by omega)
          have hs : (List.map (fun a => RM.times a z) l).sum = (List.map (fun a => RM.times a z) done).sum + (fun a => RM.times a z) a + (List.map (fun a => RM.times a z) rest).sum := by rw [hl]; simp; omega
          have hws : IntKind.i64.wrap ((1 : Int) + (List.map (fun a => RM.times a z) done).sum + (fun a => RM.times a z) a) = 1 + (List.map (fun a => RM.times a z) done).sum + (fun a => RM.times a z) a := IntWalk.i64_in _ (by omega)
          (repeat (first | refine Wp.seq ?_ | refine Wp.block ?_ | refine Wp.skip ?_ | refine Wp.exit ?_ | refine Wp.ret ?_ | refine thenK_n ?_ | refine thenK_r ?_ | refine thenK_e ?_ | refine blockK_n ?_ | refine blockK_r ?_ | refine blockK_e ?_ | refine blockK_o (by decide) ?_ | (refine Wp.condT ?_ ?_; focus (simp -implicitDefEqProofs [ha, hlt, hw, hws, ihc a hmem, cb, hwz] <;> fail)) | (refine Wp.condF ?_ ?_; focus (simp -implicitDefEqProofs [ha, hlt, hw, hws, ihc a hmem, cb, hwz] <;> fail)) | refine Wp.reg (by simp -implicitDefEqProofs [ha, hlt, hw, hws, ihc a hmem, cb, hwz]; exact ⟨rfl, rfl⟩) ?_ | refine Wp.regA (by simp -implicitDefEqProofs [ha, hlt, hw, hws, ihc a hmem, cb, hwz]; exact ⟨rfl, rfl⟩) (by rfl) ?_))
          refine ⟨by simp, ⟨_, by simp -implicitDefEqProofs; rfl⟩, rest.length, by simp, done ++ [a], rest, by simp [hl], rfl, by simp, by simp; try omega⟩
        simp at hl
        subst hl
        (repeat (first | refine Wp.seq ?_ | refine Wp.block ?_ | refine Wp.skip ?_ | refine Wp.exit ?_ | refine Wp.ret ?_ | refine thenK_n ?_ | refine thenK_r ?_ | refine thenK_e ?_ | refine blockK_n ?_ | refine blockK_r ?_ | refine blockK_e ?_ | refine blockK_o (by decide) ?_ | (refine Wp.condT ?_ ?_; focus (simp -implicitDefEqProofs <;> fail)) | (refine Wp.condF ?_ ?_; focus (simp -implicitDefEqProofs <;> fail)) | refine Wp.reg (by simp -implicitDefEqProofs; exact ⟨rfl, rfl⟩) ?_ | refine Wp.regA (by simp -implicitDefEqProofs; exact ⟨rfl, rfl⟩) (by rfl) ?_))
        (apply endK_r; (focus (simp -implicitDefEqProofs [Tryz.f77]; try rfl)); (focus (intro g; simp -implicitDefEqProofs [Tryz.f77])); exact ⟨_, rfl⟩)
      · have hz' : ¬ (k = 1 ∧ i = z) := by omega
        simp only [if_neg hz'] at hle' ⊢
        simp only [hk1] at cb ⊢
        refine den_w0 (fn := Tryz.f77) (by rfl) (by rfl) (by kernel_rfl) rfl (by rfl) ?_
        simp -implicitDefEqProofs
        (repeat (first | refine Wp.seq ?_ | refine Wp.block ?_ | refine Wp.skip ?_ | refine Wp.exit ?_ | refine Wp.ret ?_ | refine thenK_n ?_ | refine thenK_r ?_ | refine thenK_e ?_ | refine blockK_n ?_ | refine blockK_r ?_ | refine blockK_e ?_ | refine blockK_o (by decide) ?_ | (refine Wp.condT ?_ ?_; focus (simp -implicitDefEqProofs [hiz] <;> fail)) | (refine Wp.condF ?_ ?_; focus (simp -implicitDefEqProofs [hiz] <;> fail)) | refine Wp.reg (by simp -implicitDefEqProofs [hiz]; exact ⟨rfl, rfl⟩) ?_ | refine Wp.regA (by simp -implicitDefEqProofs [hiz]; exact ⟨rfl, rfl⟩) (by rfl) ?_))
        refine Wp.loopF [5, 7, 22, 23, 24, 25, 26, 27, 28, 29, 30, 31, 32, 33, 34] [] (fun n w c tk => ∃ done rest, l = done ++ rest ∧ n = rest.length ∧ w 22 = .int .i64 done.length ∧ w 5 = .int .i64 (0 + (List.map (fun a => RM.times a z) done).sum : Nat)) (l.length) ?_ ?_ ?_ ?_
        · rfl
        · rfl
        · exact ⟨[], l, by simp, rfl, rfl, rfl⟩
        rintro n w c junk tk r σ ⟨done, rest, hl, rfl, hix, hacc⟩ hr hσ
        simp -implicitDefEqProofs [hix, hacc] at hr hσ
        subst hr hσ
        rcases rest with _ | ⟨a, rest⟩
        rotate_left
        · have ha : el l done.length = some a := by simp [hl]
          have hlt : done.length < l.length := by simp [hl]
          have hmem : a ∈ l := by simp [hl]
          have hw : IntKind.i64.wrap ((done.length : Int) + 1) = done.length + 1 := IntWalk.i64_in _ (by omega)
          have hs : (List.map (fun a => RM.times a z) l).sum = (List.map (fun a => RM.times a z) done).sum + (fun a => RM.times a z) a + (List.map (fun a => RM.times a z) rest).sum := by rw [hl]; simp; omega
          have hws : IntKind.i64.wrap ((0 : Int) + (List.map (fun a => RM.times a z) done).sum + (fun a => RM.times a z) a) = 0 + (List.map (fun a => RM.times a z) done).sum + (fun a => RM.times a z) a := IntWalk.i64_in _ (by omega)
          simp only at hs
          have hws2 : IntKind.i64.wrap (((List.map (fun a => RM.times a z) done).sum : Int) + (RM.times a z : Int)) = (List.map (fun a => RM.times a z) done).sum + (RM.times a z : Int) := IntWalk.i64_in _ (by omega)
          (repeat (first | refine Wp.seq ?_ | refine Wp.block ?_ | refine Wp.skip ?_ | refine Wp.exit ?_ | refine Wp.ret ?_ | refine thenK_n ?_ | refine thenK_r ?_ | refine thenK_e ?_ | refine blockK_n ?_ | refine blockK_r ?_ | refine blockK_e ?_ | refine blockK_o (by decide) ?_ | (refine Wp.condT ?_ ?_; focus (simp -implicitDefEqProofs [ha, hlt, hw, hws, ihc a hmem, hws2, cb, hwz] <;> fail)) | (refine Wp.condF ?_ ?_; focus (simp -implicitDefEqProofs [ha, hlt, hw, hws, ihc a hmem, hws2, cb, hwz] <;> fail)) | refine Wp.reg (by simp -implicitDefEqProofs [ha, hlt, hw, hws, ihc a hmem, hws2, cb, hwz]; exact ⟨rfl, rfl⟩) ?_ | refine Wp.regA (by simp -implicitDefEqProofs [ha, hlt, hw, hws, ihc a hmem, hws2, cb, hwz]; exact ⟨rfl, rfl⟩) (by rfl) ?_))
          refine ⟨by simp, ⟨_, by simp -implicitDefEqProofs; rfl⟩, rest.length, by simp, done ++ [a], rest, by simp [hl], rfl, by simp, by simp; try omega⟩
        simp at hl
        subst hl
        (repeat (first | refine Wp.seq ?_ | refine Wp.block ?_ | refine Wp.skip ?_ | refine Wp.exit ?_ | refine Wp.ret ?_ | refine thenK_n ?_ | refine thenK_r ?_ | refine thenK_e ?_ | refine blockK_n ?_ | refine blockK_r ?_ | refine blockK_e ?_ | refine blockK_o (by decide) ?_ | (refine Wp.condT ?_ ?_; focus (simp -implicitDefEqProofs <;> fail)) | (refine Wp.condF ?_ ?_; focus (simp -implicitDefEqProofs <;> fail)) | refine Wp.reg (by simp -implicitDefEqProofs; exact ⟨rfl, rfl⟩) ?_ | refine Wp.regA (by simp -implicitDefEqProofs; exact ⟨rfl, rfl⟩) (by rfl) ?_))
        (apply endK_r; (focus (simp -implicitDefEqProofs [Tryz.f77]; try rfl)); (focus (intro g; simp -implicitDefEqProofs [Tryz.f77])); exact ⟨_, rfl⟩)
    · have hz' : ¬ (k = 1 ∧ i = z) := by omega
      simp only [if_neg hz'] at hle' ⊢
      refine den_w0 (fn := Tryz.f77) (by rfl) (by rfl) (by kernel_rfl) rfl (by rfl) ?_
      simp -implicitDefEqProofs
      (repeat (first | refine Wp.seq ?_ | refine Wp.block ?_ | refine Wp.skip ?_ | refine Wp.exit ?_ | refine Wp.ret ?_ | refine thenK_n ?_ | refine thenK_r ?_ | refine thenK_e ?_ | refine blockK_n ?_ | refine blockK_r ?_ | refine blockK_e ?_ | refine blockK_o (by decide) ?_ | (refine Wp.condT ?_ ?_; focus (simp -implicitDefEqProofs [hk1] <;> fail)) | (refine Wp.condF ?_ ?_; focus (simp -implicitDefEqProofs [hk1] <;> fail)) | refine Wp.reg (by simp -implicitDefEqProofs [hk1]; exact ⟨rfl, rfl⟩) ?_ | refine Wp.regA (by simp -implicitDefEqProofs [hk1]; exact ⟨rfl, rfl⟩) (by rfl) ?_))
      refine Wp.loopF [5, 7, 22, 23, 24, 25, 26, 27, 28, 29, 30, 31, 32, 33, 34] [] (fun n w c tk => ∃ done rest, l = done ++ rest ∧ n = rest.length ∧ w 22 = .int .i64 done.length ∧ w 5 = .int .i64 (0 + (List.map (fun a => RM.times a z) done).sum : Nat)) (l.length) ?_ ?_ ?_ ?_
      · rfl
      · rfl
      · exact ⟨[], l, by simp, rfl, rfl, rfl⟩
      rintro n w c junk tk r σ ⟨done, rest, hl, rfl, hix, hacc⟩ hr hσ
      simp -implicitDefEqProofs [hix, hacc] at hr hσ
      subst hr hσ
      rcases rest with _ | ⟨a, rest⟩
      rotate_left
      · have ha : el l done.length = some a := by simp [hl]
        have hlt : done.length < l.length := by simp [hl]
        have hmem : a ∈ l := by simp [hl]
        have hw : IntKind.i64.wrap ((done.length : Int) + 1) = done.length + 1 := IntWalk.i64_in _ (by omega)
        have hs : (List.map (fun a => RM.times a z) l).sum = (List.map (fun a => RM.times a z) done).sum + (fun a => RM.times a z) a + (List.map (fun a => RM.times a z) rest).sum := by rw [hl]; simp; omega
        have hws : IntKind.i64.wrap ((0 : Int) + (List.map (fun a => RM.times a z) done).sum + (fun a => RM.times a z) a) = 0 + (List.map (fun a => RM.times a z) done).sum + (fun a => RM.times a z) a := IntWalk.i64_in _ (by omega)
        simp only at hs
        have hws2 : IntKind.i64.wrap (((List.map (fun a => RM.times a z) done).sum : Int) + (RM.times a z : Int)) = (List.map (fun a => RM.times a z) done).sum + (RM.times a z : Int) := IntWalk.i64_in _ (by omega)
        (repeat (first | refine Wp.seq ?_ | refine Wp.block ?_ | refine Wp.skip ?_ | refine Wp.exit ?_ | refine Wp.ret ?_ | refine thenK_n ?_ | refine thenK_r ?_ | refine thenK_e ?_ | refine blockK_n ?_ | refine blockK_r ?_ | refine blockK_e ?_ | refine blockK_o (by decide) ?_ | (refine Wp.condT ?_ ?_; focus (simp -implicitDefEqProofs [ha, hlt, hw, hws, ihc a hmem, hws2, cb, hwz] <;> fail)) | (refine Wp.condF ?_ ?_; focus (simp -implicitDefEqProofs [ha, hlt, hw, hws, ihc a hmem, hws2, cb, hwz] <;> fail)) | refine Wp.reg (by simp -implicitDefEqProofs [ha, hlt, hw, hws, ihc a hmem, hws2, cb, hwz]; exact ⟨rfl, rfl⟩) ?_ | refine Wp.regA (by simp -implicitDefEqProofs [ha, hlt, hw, hws, ihc a hmem, hws2, cb, hwz]; exact ⟨rfl, rfl⟩) (by rfl) ?_))
        refine ⟨by simp, ⟨_, by simp -implicitDefEqProofs; rfl⟩, rest.length, by simp, done ++ [a], rest, by simp [hl], rfl, by simp, by simp; try omega⟩
      simp at hl
      subst hl
      (repeat (first | refine Wp.seq ?_ | refine Wp.block ?_ | refine Wp.skip ?_ | refine Wp.exit ?_ | refine Wp.ret ?_ | refine thenK_n ?_ | refine thenK_r ?_ | refine thenK_e ?_ | refine blockK_n ?_ | refine blockK_r ?_ | refine blockK_e ?_ | refine blockK_o (by decide) ?_ | (refine Wp.condT ?_ ?_; focus (simp -implicitDefEqProofs <;> fail)) | (refine Wp.condF ?_ ?_; focus (simp -implicitDefEqProofs <;> fail)) | refine Wp.reg (by simp -implicitDefEqProofs; exact ⟨rfl, rfl⟩) ?_ | refine Wp.regA (by simp -implicitDefEqProofs; exact ⟨rfl, rfl⟩) (by rfl) ?_))
      (apply endK_r; (focus (simp -implicitDefEqProofs [Tryz.f77]; try rfl)); (focus (intro g; simp -implicitDefEqProofs [Tryz.f77])); exact ⟨_, rfl⟩)
theorem times3_c {k i m z : Int} {us : List RT} {ts : List RM} (ht : (RM.mk k i (.mk m us) ts).nodes ≤ 1000000000) (hz : 0 ≤ z ∧ z ≤ 1000000000) (g : Nat) (S : St) (o1 o2 : Own) : callT (X.at g) (den X E) S 77 [.agg [.int .i64 k, .int .i64 i, .int .i64 m, .sl (List.map RT.cells us) o1, .sl (List.map RM.cells ts) o2], .int .i64 z] = some (.int .i64 ((RM.mk k i (.mk m us) ts).times z), S) := by
  simpa using call_up (cf := X.at g) (fn := Tryz.f77) (args' := [.agg [.int .i64 k, .int .i64 i, .int .i64 m, .sl (List.map RT.cells us) o1, .sl (List.map RM.cells ts) o2], .int .i64 z]) (by kernel_rfl) (by simp) (by simp; try rfl) (times3 (.mk k i (.mk m us) ts) z ht hz.1 (by omega)) S
end M
end Go.Proofs.YthclcchnodjjpaaGreatDoor
/- ref03: Up, In, Put; ref02.Same of a term with itself. -/
set_option linter.unusedVariables false
set_option linter.unusedSimpArgs false
set_option maxRecDepth 10000
set_option maxHeartbeats 4000000
namespace Go.Proofs.YthclcchnodjjpaaGreatDoor
namespace M
attribute [local irreducible] Wp thenK blockK endK
variable {E : Oracle}
open T (Ty Tm noTy)
attribute [local simp] noTy
theorem RM.ok_var {i : Int} {t : RT} {l : List RM} (h : (RM.mk 1 i t l).ok = true) : l = [] := by
  rw [RM.ok_mk] at h
  simp only [Bool.and_eq_true, decide_eq_true_eq] at h
  have h1 := h.1.1.1.1
  have : RM.arity 1 = 0 := rfl
  rw [this] at h1
  exact List.eq_nil_of_length_eq_zero (by omega)
theorem RM.ok_kids {k i : Int} {t : RT} {l : List RM} (h : (RM.mk k i t l).ok = true) : ∀ a ∈ l, a.ok = true := by
  rw [RM.ok_mk] at h
  simp only [Bool.and_eq_true, decide_eq_true_eq, List.all_eq_true] at h
  exact h.2
theorem up3 (q : Int) (hn : 0 ≤ q ∧ q ≤ 1000000000) (t : RM) : ∀ z : Int, t.nodes ≤ 1000000000 → t.idx 1000000000 = true → t.ok = true → 0 ≤ z → z + t.nodes ≤ 10000000000 →
    den X E 108 [t.enc, .int .i64 z, .int .i64 q] [] = some ((t.lift q z).enc, []) := by
  induction t using RM.ind with | h k i t l ih =>
  intro z ht hi hok hc0 hc
  have hlen := RM.nodes_len k i t l
  have hmk := RM.lift_mk q k i z t l
  have hkids := RM.ok_kids hok
  have cb := below3_c (E := E) k i t.k t.as l
  rw [RM.idx_mk] at hi
  simp only [Bool.and_eq_true, decide_eq_true_eq, List.all_eq_true] at hi
  by_cases hk1 : k = 1
  · subst hk1
    have hl0 := RM.ok_var hok
    subst hl0
    simp only [if_true] at hmk
    by_cases hci : z ≤ i
    · have hw : IntKind.i64.wrap (i + q) = i + q := IntWalk.i64_in _ (by omega)
      rw [if_pos hci] at hmk
      rw [hmk]
      refine den_w0 (fn := Tryz.f108) (by rfl) (by rfl) (by kernel_rfl) rfl (by rfl) ?_
      simp -implicitDefEqProofs
      (repeat (first | refine Wp.seq ?_ | refine Wp.block ?_ | refine Wp.skip ?_ | refine Wp.exit ?_ | refine Wp.ret ?_ | refine thenK_n ?_ | refine thenK_r ?_ | refine thenK_e ?_ | refine blockK_n ?_ | refine blockK_r ?_ | refine blockK_e ?_ | refine blockK_o (by decide) ?_ | (refine Wp.condT ?_ ?_; focus (simp -implicitDefEqProofs [hci, hw] <;> fail)) | (refine Wp.condF ?_ ?_; focus (simp -implicitDefEqProofs [hci, hw] <;> fail)) | refine Wp.reg (by simp -implicitDefEqProofs [hci, hw]; exact ⟨rfl, rfl⟩) ?_ | refine Wp.regA (by simp -implicitDefEqProofs [hci, hw]; exact ⟨rfl, rfl⟩) (by rfl) ?_ | refine Wp.unroll ?_))
      (apply endK_r; (focus (simp -implicitDefEqProofs [Tryz.f108]; try rfl)); (focus (intro g; simp -implicitDefEqProofs [Tryz.f108])); exact ⟨_, rfl⟩)
    · rw [if_neg hci] at hmk
      rw [hmk]
      refine den_w0 (fn := Tryz.f108) (by rfl) (by rfl) (by kernel_rfl) rfl (by rfl) ?_
      simp -implicitDefEqProofs
      (repeat (first | refine Wp.seq ?_ | refine Wp.block ?_ | refine Wp.skip ?_ | refine Wp.exit ?_ | refine Wp.ret ?_ | refine thenK_n ?_ | refine thenK_r ?_ | refine thenK_e ?_ | refine blockK_n ?_ | refine blockK_r ?_ | refine blockK_e ?_ | refine blockK_o (by decide) ?_ | (refine Wp.condT ?_ ?_; focus (simp -implicitDefEqProofs [hci] <;> fail)) | (refine Wp.condF ?_ ?_; focus (simp -implicitDefEqProofs [hci] <;> fail)) | refine Wp.reg (by simp -implicitDefEqProofs [hci]; exact ⟨rfl, rfl⟩) ?_ | refine Wp.regA (by simp -implicitDefEqProofs [hci]; exact ⟨rfl, rfl⟩) (by rfl) ?_ | refine Wp.unroll ?_))
      (apply endK_r; (focus (simp -implicitDefEqProofs [Tryz.f108]; try rfl)); (focus (intro g; simp -implicitDefEqProofs [Tryz.f108])); exact ⟨_, rfl⟩)
  simp only [if_neg hk1] at hmk
  have ihc : ∀ a ∈ l, ∀ (g : Nat) (S : St) (o1 o2 : Own), callT (X.at g) (den X E) S 108 [.agg [.int .i64 a.k, .int .i64 a.i, .int .i64 a.ty.k, .sl (List.map RT.cells a.ty.as) o1, .sl (List.map RM.cells a.as) o2], .int .i64 (if k = 2 then z + 1 else z), .int .i64 q] = some (.agg [.int .i64 (RM.lift q a (if k = 2 then z + 1 else z)).k, .int .i64 (RM.lift q a (if k = 2 then z + 1 else z)).i, .int .i64 (RM.lift q a (if k = 2 then z + 1 else z)).ty.k, .sl (List.map RT.cells (RM.lift q a (if k = 2 then z + 1 else z)).ty.as) .dead, .sl (List.map RM.cells (RM.lift q a (if k = 2 then z + 1 else z)).as) .dead], S) := by
    intros
    simpa using call_up (cf := X.at _) (fn := Tryz.f108) (args' := [_, _, _]) (by kernel_rfl) (by simp) (by simp; try rfl) (ih _ (by assumption) _ (by have := RM.nodes_mem (k := k) (i := i) (t := t) (l := l) (by assumption); omega) (hi.2 _ (by assumption)) (hkids _ (by assumption)) (by split <;> omega) (by have := RM.nodes_mem (k := k) (i := i) (t := t) (l := l) (by assumption); split <;> omega)) _
  have hw1 : IntKind.i64.wrap (z + 1) = z + 1 := IntWalk.i64_in _ (by omega)
  have hwz : IntKind.i64.wrap z = z := IntWalk.i64_in _ (by omega)
  by_cases hk2 : k = 2
  · have hcb : belowI k = 1 := by simp [belowI, hk2]
    rw [hcb, hk2] at cb
    simp only [hk2, if_true] at hmk ihc
    rw [hk2, hmk]
    refine den_w0 (fn := Tryz.f108) (by rfl) (by rfl) (by kernel_rfl) rfl (by rfl) ?_
    simp -implicitDefEqProofs
    (repeat (first | refine Wp.seq ?_ | refine Wp.block ?_ | refine Wp.skip ?_ | refine Wp.exit ?_ | refine Wp.ret ?_ | refine thenK_n ?_ | refine thenK_r ?_ | refine thenK_e ?_ | refine blockK_n ?_ | refine blockK_r ?_ | refine blockK_e ?_ | refine blockK_o (by decide) ?_ | (refine Wp.condT ?_ ?_; focus (simp -implicitDefEqProofs <;> fail)) | (refine Wp.condF ?_ ?_; focus (simp -implicitDefEqProofs <;> fail)) | refine Wp.reg (by simp -implicitDefEqProofs; exact ⟨rfl, rfl⟩) ?_ | refine Wp.regA (by simp -implicitDefEqProofs; exact ⟨rfl, rfl⟩) (by rfl) ?_))
    refine Wp.loopF [9, 34, 35, 36, 37, 38, 39, 40, 41, 42, 43, 44, 45, 46, 47, 48, 49, 50] [2] (fun n w c tk => ∃ done rest o, l = done ++ rest ∧ n = rest.length ∧ w 34 = .int .i64 done.length ∧ c 2 = [.int .i64 2, .int .i64 i, .int .i64 t.k, .sl (t.as.map RT.cells) .dead, .sl (List.map (RM.cells ∘ fun a => RM.lift q a (z + 1)) done) o] ∧ Can tk (List.map (RM.cells ∘ fun a => RM.lift q a (z + 1)) done) o) (l.length) ?_ ?_ ?_ ?_
    · rfl
    · rfl
    · exact ⟨[], l, .full, by simp, rfl, rfl, rfl, trivial⟩
    rintro n w c junk tk r σ ⟨done, rest, o, hl, rfl, hix, hacc, hcan⟩ hr hσ
    simp -implicitDefEqProofs [hix, hacc] at hr hσ
    subst hr hσ
    rcases rest with _ | ⟨a, rest⟩
    rotate_left
    · have ha : el l done.length = some a := by simp [hl]
      have hlt : done.length < l.length := by simp [hl]
      have hmem : a ∈ l := by simp [hl]
      have hw : IntKind.i64.wrap ((done.length : Int) + 1) = done.length + 1 := IntWalk.i64_in _ (by omega)
      obtain ⟨o', tk', happ, hcan'⟩ := can_app hcan 5 (by decide) (by simp) (by simp; omega)
      (repeat (first | refine Wp.seq ?_ | refine Wp.block ?_ | refine Wp.skip ?_ | refine Wp.exit ?_ | refine Wp.ret ?_ | refine thenK_n ?_ | refine thenK_r ?_ | refine thenK_e ?_ | refine blockK_n ?_ | refine blockK_r ?_ | refine blockK_e ?_ | refine blockK_o (by decide) ?_ | (refine Wp.condT ?_ ?_; focus (simp -implicitDefEqProofs [ha, hlt, hw, happ, ihc a hmem, cb, hw1] <;> fail)) | (refine Wp.condF ?_ ?_; focus (simp -implicitDefEqProofs [ha, hlt, hw, happ, ihc a hmem, cb, hw1] <;> fail)) | refine Wp.reg (by simp -implicitDefEqProofs [ha, hlt, hw, happ, ihc a hmem, cb, hw1]; exact ⟨rfl, rfl⟩) ?_ | refine Wp.regA (by simp -implicitDefEqProofs [ha, hlt, hw, happ, ihc a hmem, cb, hw1]; exact ⟨rfl, rfl⟩) (by rfl) ?_))
      refine ⟨by simp, ⟨_, by simp -implicitDefEqProofs; rfl⟩, rest.length, by simp, done ++ [a], rest, o', by simp [hl], rfl, by simp, by simp, by simpa using hcan' _⟩
    simp at hl
    subst hl
    (repeat (first | refine Wp.seq ?_ | refine Wp.block ?_ | refine Wp.skip ?_ | refine Wp.exit ?_ | refine Wp.ret ?_ | refine thenK_n ?_ | refine thenK_r ?_ | refine thenK_e ?_ | refine blockK_n ?_ | refine blockK_r ?_ | refine blockK_e ?_ | refine blockK_o (by decide) ?_ | (refine Wp.condT ?_ ?_; focus (simp -implicitDefEqProofs <;> fail)) | (refine Wp.condF ?_ ?_; focus (simp -implicitDefEqProofs <;> fail)) | refine Wp.reg (by simp -implicitDefEqProofs; exact ⟨rfl, rfl⟩) ?_ | refine Wp.regA (by simp -implicitDefEqProofs; exact ⟨rfl, rfl⟩) (by rfl) ?_))
    (apply endK_r; (focus (simp -implicitDefEqProofs [Tryz.f108]; try rfl)); (focus (intro g; simp -implicitDefEqProofs [Tryz.f108])); exact ⟨_, rfl⟩)
  · have hcb : belowI k = 0 := by simp [belowI, hk2]
    rw [hcb] at cb
    simp only [hk2, if_false] at hmk ihc
    rw [hmk]
    refine den_w0 (fn := Tryz.f108) (by rfl) (by rfl) (by kernel_rfl) rfl (by rfl) ?_
    simp -implicitDefEqProofs
    (repeat (first | refine Wp.seq ?_ | refine Wp.block ?_ | refine Wp.skip ?_ | refine Wp.exit ?_ | refine Wp.ret ?_ | refine thenK_n ?_ | refine thenK_r ?_ | refine thenK_e ?_ | refine blockK_n ?_ | refine blockK_r ?_ | refine blockK_e ?_ | refine blockK_o (by decide) ?_ | (refine Wp.condT ?_ ?_; focus (simp -implicitDefEqProofs [hk1] <;> fail)) | (refine Wp.condF ?_ ?_; focus (simp -implicitDefEqProofs [hk1] <;> fail)) | refine Wp.reg (by simp -implicitDefEqProofs [hk1]; exact ⟨rfl, rfl⟩) ?_ | refine Wp.regA (by simp -implicitDefEqProofs [hk1]; exact ⟨rfl, rfl⟩) (by rfl) ?_))
    refine Wp.loopF [9, 34, 35, 36, 37, 38, 39, 40, 41, 42, 43, 44, 45, 46, 47, 48, 49, 50] [2] (fun n w c tk => ∃ done rest o, l = done ++ rest ∧ n = rest.length ∧ w 34 = .int .i64 done.length ∧ c 2 = [.int .i64 k, .int .i64 i, .int .i64 t.k, .sl (t.as.map RT.cells) .dead, .sl (List.map (RM.cells ∘ fun a => RM.lift q a z) done) o] ∧ Can tk (List.map (RM.cells ∘ fun a => RM.lift q a z) done) o) (l.length) ?_ ?_ ?_ ?_
    · rfl
    · rfl
    · exact ⟨[], l, .full, by simp, rfl, rfl, rfl, trivial⟩
    rintro n w c junk tk r σ ⟨done, rest, o, hl, rfl, hix, hacc, hcan⟩ hr hσ
    simp -implicitDefEqProofs [hix, hacc] at hr hσ
    subst hr hσ
    rcases rest with _ | ⟨a, rest⟩
    rotate_left
    · have ha : el l done.length = some a := by simp [hl]
      have hlt : done.length < l.length := by simp [hl]
      have hmem : a ∈ l := by simp [hl]
      have hw : IntKind.i64.wrap ((done.length : Int) + 1) = done.length + 1 := IntWalk.i64_in _ (by omega)
      obtain ⟨o', tk', happ, hcan'⟩ := can_app hcan 5 (by decide) (by simp) (by simp; omega)
      (repeat (first | refine Wp.seq ?_ | refine Wp.block ?_ | refine Wp.skip ?_ | refine Wp.exit ?_ | refine Wp.ret ?_ | refine thenK_n ?_ | refine thenK_r ?_ | refine thenK_e ?_ | refine blockK_n ?_ | refine blockK_r ?_ | refine blockK_e ?_ | refine blockK_o (by decide) ?_ | (refine Wp.condT ?_ ?_; focus (simp -implicitDefEqProofs [ha, hlt, hw, happ, ihc a hmem, cb, hwz] <;> fail)) | (refine Wp.condF ?_ ?_; focus (simp -implicitDefEqProofs [ha, hlt, hw, happ, ihc a hmem, cb, hwz] <;> fail)) | refine Wp.reg (by simp -implicitDefEqProofs [ha, hlt, hw, happ, ihc a hmem, cb, hwz]; exact ⟨rfl, rfl⟩) ?_ | refine Wp.regA (by simp -implicitDefEqProofs [ha, hlt, hw, happ, ihc a hmem, cb, hwz]; exact ⟨rfl, rfl⟩) (by rfl) ?_))
      refine ⟨by simp, ⟨_, by simp -implicitDefEqProofs; rfl⟩, rest.length, by simp, done ++ [a], rest, o', by simp [hl], rfl, by simp, by simp, by simpa using hcan' _⟩
    simp at hl
    subst hl
    (repeat (first | refine Wp.seq ?_ | refine Wp.block ?_ | refine Wp.skip ?_ | refine Wp.exit ?_ | refine Wp.ret ?_ | refine thenK_n ?_ | refine thenK_r ?_ | refine thenK_e ?_ | refine blockK_n ?_ | refine blockK_r ?_ | refine blockK_e ?_ | refine blockK_o (by decide) ?_ | (refine Wp.condT ?_ ?_; focus (simp -implicitDefEqProofs <;> fail)) | (refine Wp.condF ?_ ?_; focus (simp -implicitDefEqProofs <;> fail)) | refine Wp.reg (by simp -implicitDefEqProofs; exact ⟨rfl, rfl⟩) ?_ | refine Wp.regA (by simp -implicitDefEqProofs; exact ⟨rfl, rfl⟩) (by rfl) ?_))
    (apply endK_r; (focus (simp -implicitDefEqProofs [Tryz.f108]; try rfl)); (focus (intro g; simp -implicitDefEqProofs [Tryz.f108])); exact ⟨_, rfl⟩)
theorem up3_c {q z k i m : Int} {us : List RT} {ts : List RM} (hn : 0 ≤ q ∧ q ≤ 1000000000) (ht : (RM.mk k i (.mk m us) ts).nodes ≤ 1000000000) (hi : (RM.mk k i (.mk m us) ts).idx 1000000000 = true) (hok : (RM.mk k i (.mk m us) ts).ok = true) (hc : 0 ≤ z ∧ z ≤ 1000000000) (g : Nat) (S : St) (o1 o2 : Own) : callT (X.at g) (den X E) S 108 [.agg [.int .i64 k, .int .i64 i, .int .i64 m, .sl (List.map RT.cells us) o1, .sl (List.map RM.cells ts) o2], .int .i64 z, .int .i64 q] = some (.agg [.int .i64 ((RM.mk k i (.mk m us) ts).lift q z).k, .int .i64 ((RM.mk k i (.mk m us) ts).lift q z).i, .int .i64 ((RM.mk k i (.mk m us) ts).lift q z).ty.k, .sl (List.map RT.cells ((RM.mk k i (.mk m us) ts).lift q z).ty.as) .dead, .sl (List.map RM.cells ((RM.mk k i (.mk m us) ts).lift q z).as) .dead], S) := by
  simpa using call_up (cf := X.at g) (fn := Tryz.f108) (args' := [.agg [.int .i64 k, .int .i64 i, .int .i64 m, .sl (List.map RT.cells us) o1, .sl (List.map RM.cells ts) o2], .int .i64 z, .int .i64 q]) (by kernel_rfl) (by simp) (by simp; try rfl) (up3 q hn (.mk k i (.mk m us) ts) z ht hi hok hc.1 (by omega)) S

mutual
/-- A term in place of a variable. -/
def RM.putr (s : RM) : RM → Int → RM
  | .mk k i t l, c => if k = 1 then (if i = c then s.lift c 0 else if c < i then .mk 1 (i - 1) (.mk 0 []) [] else .mk k i t l) else .mk k i t (RM.putrs s l (if k = 2 then c + 1 else c))
def RM.putrs (s : RM) : List RM → Int → List RM
  | [], _ => []
  | a :: l, c => RM.putr s a c :: RM.putrs s l c
end
theorem RM.putr_mk (s : RM) (k i c : Int) (t : RT) (l : List RM) : RM.putr s (.mk k i t l) c = if k = 1 then (if i = c then s.lift c 0 else if c < i then .mk 1 (i - 1) (.mk 0 []) [] else .mk k i t l) else .mk k i t (l.map fun a => RM.putr s a (if k = 2 then c + 1 else c)) := by
  have : ∀ l c, RM.putrs s l c = l.map fun a => RM.putr s a c := fun l c => by induction l with | nil => rfl | cons a l ih => simp [RM.putrs, ih]
  rw [RM.putr, this]
theorem in3 (s : RM) (hs : s.nodes ≤ 1000000000) (hsi : s.idx 1000000000 = true) (hsok : s.ok = true) (t : RM) : ∀ z : Int, t.nodes ≤ 1000000000 → t.idx 1000000000 = true → t.ok = true → 0 ≤ z → z + t.nodes ≤ 1000000000 →
    den X E 79 [t.enc, .int .i64 0, .int .i64 z, s.enc] [] = some ((RM.putr s t z).enc, []) := by
  induction t using RM.ind with | h k i t l ih =>
  intro z ht hi hok hc0 hc
  have hlen := RM.nodes_len k i t l
  have hmk := RM.putr_mk s k i z t l
  have hkids := RM.ok_kids hok
  have cb := below3_c (E := E) k i t.k t.as l
  have hwz : IntKind.i64.wrap z = z := IntWalk.i64_in _ (by omega)
  rw [RM.idx_mk] at hi
  simp only [Bool.and_eq_true, decide_eq_true_eq, List.all_eq_true] at hi
  by_cases hk1 : k = 1
  · subst hk1
    have hl0 := RM.ok_var hok
    subst hl0
    simp only [if_true] at hmk
    by_cases hiz : i = z
    · have c1 := up3_c (E := E) (q := z) (z := 0) (k := s.k) (i := s.i) (m := s.ty.k) (us := s.ty.as) (ts := s.as) (by omega) (by simpa using hs) (by simpa using hsi) (by simpa using hsok) (by omega)
      rw [if_pos hiz] at hmk
      rw [hmk, hiz]
      simp at c1
      refine den_w0 (fn := Tryz.f79) (by rfl) (by rfl) (by kernel_rfl) rfl (by rfl) ?_
      simp -implicitDefEqProofs
      (repeat (first | refine Wp.seq ?_ | refine Wp.block ?_ | refine Wp.skip ?_ | refine Wp.exit ?_ | refine Wp.ret ?_ | refine thenK_n ?_ | refine thenK_r ?_ | refine thenK_e ?_ | refine blockK_n ?_ | refine blockK_r ?_ | refine blockK_e ?_ | refine blockK_o (by decide) ?_ | (refine Wp.condT ?_ ?_; focus (simp -implicitDefEqProofs [hwz, c1] <;> fail)) | (refine Wp.condF ?_ ?_; focus (simp -implicitDefEqProofs [hwz, c1] <;> fail)) | refine Wp.reg (by simp -implicitDefEqProofs [hwz, c1]; exact ⟨rfl, rfl⟩) ?_ | refine Wp.regA (by simp -implicitDefEqProofs [hwz, c1]; exact ⟨rfl, rfl⟩) (by rfl) ?_ | refine Wp.unroll ?_))
      (apply endK_r; (focus (simp -implicitDefEqProofs [Tryz.f79]; try rfl)); (focus (intro g; simp -implicitDefEqProofs [Tryz.f79])); exact ⟨_, rfl⟩)
    · rw [if_neg hiz] at hmk
      by_cases hzi : z < i
      · have hw : IntKind.i64.wrap (i - 1) = i - 1 := IntWalk.i64_in _ (by omega)
        have c1 := var2_c (E := E) (i := i - 1)
        rw [if_pos hzi] at hmk
        rw [hmk]
        refine den_w0 (fn := Tryz.f79) (by rfl) (by rfl) (by kernel_rfl) rfl (by rfl) ?_
        simp -implicitDefEqProofs
        (repeat (first | refine Wp.seq ?_ | refine Wp.block ?_ | refine Wp.skip ?_ | refine Wp.exit ?_ | refine Wp.ret ?_ | refine thenK_n ?_ | refine thenK_r ?_ | refine thenK_e ?_ | refine blockK_n ?_ | refine blockK_r ?_ | refine blockK_e ?_ | refine blockK_o (by decide) ?_ | (refine Wp.condT ?_ ?_; focus (simp -implicitDefEqProofs [hwz, hiz, hzi, hw, c1] <;> fail)) | (refine Wp.condF ?_ ?_; focus (simp -implicitDefEqProofs [hwz, hiz, hzi, hw, c1] <;> fail)) | refine Wp.reg (by simp -implicitDefEqProofs [hwz, hiz, hzi, hw, c1]; exact ⟨rfl, rfl⟩) ?_ | refine Wp.regA (by simp -implicitDefEqProofs [hwz, hiz, hzi, hw, c1]; exact ⟨rfl, rfl⟩) (by rfl) ?_ | refine Wp.unroll ?_))
        (apply endK_r; (focus (simp -implicitDefEqProofs [Tryz.f79]; try rfl)); (focus (intro g; simp -implicitDefEqProofs [Tryz.f79])); exact ⟨_, rfl⟩)
      · rw [if_neg hzi] at hmk
        rw [hmk]
        refine den_w0 (fn := Tryz.f79) (by rfl) (by rfl) (by kernel_rfl) rfl (by rfl) ?_
        simp -implicitDefEqProofs
        (repeat (first | refine Wp.seq ?_ | refine Wp.block ?_ | refine Wp.skip ?_ | refine Wp.exit ?_ | refine Wp.ret ?_ | refine thenK_n ?_ | refine thenK_r ?_ | refine thenK_e ?_ | refine blockK_n ?_ | refine blockK_r ?_ | refine blockK_e ?_ | refine blockK_o (by decide) ?_ | (refine Wp.condT ?_ ?_; focus (simp -implicitDefEqProofs [hwz, hiz, hzi] <;> fail)) | (refine Wp.condF ?_ ?_; focus (simp -implicitDefEqProofs [hwz, hiz, hzi] <;> fail)) | refine Wp.reg (by simp -implicitDefEqProofs [hwz, hiz, hzi]; exact ⟨rfl, rfl⟩) ?_ | refine Wp.regA (by simp -implicitDefEqProofs [hwz, hiz, hzi]; exact ⟨rfl, rfl⟩) (by rfl) ?_ | refine Wp.unroll ?_))
        (apply endK_r; (focus (simp -implicitDefEqProofs [Tryz.f79]; try rfl)); (focus (intro g; simp -implicitDefEqProofs [Tryz.f79])); exact ⟨_, rfl⟩)
  simp only [if_neg hk1] at hmk
  have ihc : ∀ a ∈ l, ∀ (g : Nat) (S : St) (o1 o2 o3 o4 : Own), callT (X.at g) (den X E) S 79 [.agg [.int .i64 a.k, .int .i64 a.i, .int .i64 a.ty.k, .sl (List.map RT.cells a.ty.as) o1, .sl (List.map RM.cells a.as) o2], .int .i64 0, .int .i64 (if k = 2 then z + 1 else z), .agg [.int .i64 s.k, .int .i64 s.i, .int .i64 s.ty.k, .sl (List.map RT.cells s.ty.as) o3, .sl (List.map RM.cells s.as) o4]] = some (.agg [.int .i64 (RM.putr s a (if k = 2 then z + 1 else z)).k, .int .i64 (RM.putr s a (if k = 2 then z + 1 else z)).i, .int .i64 (RM.putr s a (if k = 2 then z + 1 else z)).ty.k, .sl (List.map RT.cells (RM.putr s a (if k = 2 then z + 1 else z)).ty.as) .dead, .sl (List.map RM.cells (RM.putr s a (if k = 2 then z + 1 else z)).as) .dead], S) := by
    intros
    simpa using call_up (cf := X.at _) (fn := Tryz.f79) (args' := [_, _, _, _]) (by kernel_rfl) (by simp) (by simp; try rfl) (ih _ (by assumption) _ (by have := RM.nodes_mem (k := k) (i := i) (t := t) (l := l) (by assumption); omega) (hi.2 _ (by assumption)) (hkids _ (by assumption)) (by split <;> omega) (by have := RM.nodes_mem (k := k) (i := i) (t := t) (l := l) (by assumption); split <;> omega)) _
  have hw1 : IntKind.i64.wrap (z + 1) = z + 1 := IntWalk.i64_in _ (by omega)
  by_cases hk2 : k = 2
  · have hcb : belowI k = 1 := by simp [belowI, hk2]
    rw [hcb, hk2] at cb
    simp only [hk2, if_true] at hmk ihc
    rw [hk2, hmk]
    refine den_w0 (fn := Tryz.f79) (by rfl) (by rfl) (by kernel_rfl) rfl (by rfl) ?_
    simp -implicitDefEqProofs
    (repeat (first | refine Wp.seq ?_ | refine Wp.block ?_ | refine Wp.skip ?_ | refine Wp.exit ?_ | refine Wp.ret ?_ | refine thenK_n ?_ | refine thenK_r ?_ | refine thenK_e ?_ | refine blockK_n ?_ | refine blockK_r ?_ | refine blockK_e ?_ | refine blockK_o (by decide) ?_ | (refine Wp.condT ?_ ?_; focus (simp -implicitDefEqProofs <;> fail)) | (refine Wp.condF ?_ ?_; focus (simp -implicitDefEqProofs <;> fail)) | refine Wp.reg (by simp -implicitDefEqProofs; exact ⟨rfl, rfl⟩) ?_ | refine Wp.regA (by simp -implicitDefEqProofs; exact ⟨rfl, rfl⟩) (by rfl) ?_))
    refine Wp.loopF [11, 47, 48, 49, 50, 51, 52, 53, 54, 55, 56, 57, 58, 59, 60, 61, 62, 63, 64] [3] (fun n w c tk => ∃ done rest o, l = done ++ rest ∧ n = rest.length ∧ w 47 = .int .i64 done.length ∧ c 3 = [.int .i64 2, .int .i64 i, .int .i64 t.k, .sl (t.as.map RT.cells) .dead, .sl (List.map (RM.cells ∘ fun a => RM.putr s a (z + 1)) done) o] ∧ Can tk (List.map (RM.cells ∘ fun a => RM.putr s a (z + 1)) done) o) (l.length) ?_ ?_ ?_ ?_
    · rfl
    · rfl
    · exact ⟨[], l, .full, by simp, rfl, rfl, rfl, trivial⟩
    rintro n w c junk tk r σ ⟨done, rest, o, hl, rfl, hix, hacc, hcan⟩ hr hσ
    simp -implicitDefEqProofs [hix, hacc] at hr hσ
    subst hr hσ
    rcases rest with _ | ⟨a, rest⟩
    rotate_left
    · have ha : el l done.length = some a := by simp [hl]
      have hlt : done.length < l.length := by simp [hl]
      have hmem : a ∈ l := by simp [hl]
      have hw : IntKind.i64.wrap ((done.length : Int) + 1) = done.length + 1 := IntWalk.i64_in _ (by omega)
      obtain ⟨o', tk', happ, hcan'⟩ := can_app hcan 5 (by decide) (by simp) (by simp; omega)
      (repeat (first | refine Wp.seq ?_ | refine Wp.block ?_ | refine Wp.skip ?_ | refine Wp.exit ?_ | refine Wp.ret ?_ | refine thenK_n ?_ | refine thenK_r ?_ | refine thenK_e ?_ | refine blockK_n ?_ | refine blockK_r ?_ | refine blockK_e ?_ | refine blockK_o (by decide) ?_ | (refine Wp.condT ?_ ?_; focus (simp -implicitDefEqProofs [ha, hlt, hw, happ, ihc a hmem, cb, hw1] <;> fail)) | (refine Wp.condF ?_ ?_; focus (simp -implicitDefEqProofs [ha, hlt, hw, happ, ihc a hmem, cb, hw1] <;> fail)) | refine Wp.reg (by simp -implicitDefEqProofs [ha, hlt, hw, happ, ihc a hmem, cb, hw1]; exact ⟨rfl, rfl⟩) ?_ | refine Wp.regA (by simp -implicitDefEqProofs [ha, hlt, hw, happ, ihc a hmem, cb, hw1]; exact ⟨rfl, rfl⟩) (by rfl) ?_))
      refine ⟨by simp, ⟨_, by simp -implicitDefEqProofs; rfl⟩, rest.length, by simp, done ++ [a], rest, o', by simp [hl], rfl, by simp, by simp, by simpa using hcan' _⟩
    simp at hl
    subst hl
    (repeat (first | refine Wp.seq ?_ | refine Wp.block ?_ | refine Wp.skip ?_ | refine Wp.exit ?_ | refine Wp.ret ?_ | refine thenK_n ?_ | refine thenK_r ?_ | refine thenK_e ?_ | refine blockK_n ?_ | refine blockK_r ?_ | refine blockK_e ?_ | refine blockK_o (by decide) ?_ | (refine Wp.condT ?_ ?_; focus (simp -implicitDefEqProofs <;> fail)) | (refine Wp.condF ?_ ?_; focus (simp -implicitDefEqProofs <;> fail)) | refine Wp.reg (by simp -implicitDefEqProofs; exact ⟨rfl, rfl⟩) ?_ | refine Wp.regA (by simp -implicitDefEqProofs; exact ⟨rfl, rfl⟩) (by rfl) ?_))
    (apply endK_r; (focus (simp -implicitDefEqProofs [Tryz.f79]; try rfl)); (focus (intro g; simp -implicitDefEqProofs [Tryz.f79])); exact ⟨_, rfl⟩)
  · have hcb : belowI k = 0 := by simp [belowI, hk2]
    rw [hcb] at cb
    simp only [hk2, if_false] at hmk ihc
    rw [hmk]
    refine den_w0 (fn := Tryz.f79) (by rfl) (by rfl) (by kernel_rfl) rfl (by rfl) ?_
    simp -implicitDefEqProofs
    (repeat (first | refine Wp.seq ?_ | refine Wp.block ?_ | refine Wp.skip ?_ | refine Wp.exit ?_ | refine Wp.ret ?_ | refine thenK_n ?_ | refine thenK_r ?_ | refine thenK_e ?_ | refine blockK_n ?_ | refine blockK_r ?_ | refine blockK_e ?_ | refine blockK_o (by decide) ?_ | (refine Wp.condT ?_ ?_; focus (simp -implicitDefEqProofs [hk1] <;> fail)) | (refine Wp.condF ?_ ?_; focus (simp -implicitDefEqProofs [hk1] <;> fail)) | refine Wp.reg (by simp -implicitDefEqProofs [hk1]; exact ⟨rfl, rfl⟩) ?_ | refine Wp.regA (by simp -implicitDefEqProofs [hk1]; exact ⟨rfl, rfl⟩) (by rfl) ?_))
    refine Wp.loopF [11, 47, 48, 49, 50, 51, 52, 53, 54, 55, 56, 57, 58, 59, 60, 61, 62, 63, 64] [3] (fun n w c tk => ∃ done rest o, l = done ++ rest ∧ n = rest.length ∧ w 47 = .int .i64 done.length ∧ c 3 = [.int .i64 k, .int .i64 i, .int .i64 t.k, .sl (t.as.map RT.cells) .dead, .sl (List.map (RM.cells ∘ fun a => RM.putr s a z) done) o] ∧ Can tk (List.map (RM.cells ∘ fun a => RM.putr s a z) done) o) (l.length) ?_ ?_ ?_ ?_
    · rfl
    · rfl
    · exact ⟨[], l, .full, by simp, rfl, rfl, rfl, trivial⟩
    rintro n w c junk tk r σ ⟨done, rest, o, hl, rfl, hix, hacc, hcan⟩ hr hσ
    simp -implicitDefEqProofs [hix, hacc] at hr hσ
    subst hr hσ
    rcases rest with _ | ⟨a, rest⟩
    rotate_left
    · have ha : el l done.length = some a := by simp [hl]
      have hlt : done.length < l.length := by simp [hl]
      have hmem : a ∈ l := by simp [hl]
      have hw : IntKind.i64.wrap ((done.length : Int) + 1) = done.length + 1 := IntWalk.i64_in _ (by omega)
      obtain ⟨o', tk', happ, hcan'⟩ := can_app hcan 5 (by decide) (by simp) (by simp; omega)
      (repeat (first | refine Wp.seq ?_ | refine Wp.block ?_ | refine Wp.skip ?_ | refine Wp.exit ?_ | refine Wp.ret ?_ | refine thenK_n ?_ | refine thenK_r ?_ | refine thenK_e ?_ | refine blockK_n ?_ | refine blockK_r ?_ | refine blockK_e ?_ | refine blockK_o (by decide) ?_ | (refine Wp.condT ?_ ?_; focus (simp -implicitDefEqProofs [ha, hlt, hw, happ, ihc a hmem, cb, hwz] <;> fail)) | (refine Wp.condF ?_ ?_; focus (simp -implicitDefEqProofs [ha, hlt, hw, happ, ihc a hmem, cb, hwz] <;> fail)) | refine Wp.reg (by simp -implicitDefEqProofs [ha, hlt, hw, happ, ihc a hmem, cb, hwz]; exact ⟨rfl, rfl⟩) ?_ | refine Wp.regA (by simp -implicitDefEqProofs [ha, hlt, hw, happ, ihc a hmem, cb, hwz]; exact ⟨rfl, rfl⟩) (by rfl) ?_))
      refine ⟨by simp, ⟨_, by simp -implicitDefEqProofs; rfl⟩, rest.length, by simp, done ++ [a], rest, o', by simp [hl], rfl, by simp, by simp, by simpa using hcan' _⟩
    simp at hl
    subst hl
    (repeat (first | refine Wp.seq ?_ | refine Wp.block ?_ | refine Wp.skip ?_ | refine Wp.exit ?_ | refine Wp.ret ?_ | refine thenK_n ?_ | refine thenK_r ?_ | refine thenK_e ?_ | refine blockK_n ?_ | refine blockK_r ?_ | refine blockK_e ?_ | refine blockK_o (by decide) ?_ | (refine Wp.condT ?_ ?_; focus (simp -implicitDefEqProofs <;> fail)) | (refine Wp.condF ?_ ?_; focus (simp -implicitDefEqProofs <;> fail)) | refine Wp.reg (by simp -implicitDefEqProofs; exact ⟨rfl, rfl⟩) ?_ | refine Wp.regA (by simp -implicitDefEqProofs; exact ⟨rfl, rfl⟩) (by rfl) ?_))
    (apply endK_r; (focus (simp -implicitDefEqProofs [Tryz.f79]; try rfl)); (focus (intro g; simp -implicitDefEqProofs [Tryz.f79])); exact ⟨_, rfl⟩)
theorem same2 (t : RM) (ht : t.nodes ≤ 1000000000) : den X E 26 [t.enc, t.enc] [] = some (.bool true, []) := by
  induction t using RM.ind with | h k i t l ih =>
  have ihc : ∀ a ∈ l, ∀ (g : Nat) (S : St) (o1 o2 o3 o4 : Own), callT (X.at g) (den X E) S 26 [.agg [.int .i64 a.k, .int .i64 a.i, .int .i64 a.ty.k, .sl (List.map RT.cells a.ty.as) o1, .sl (List.map RM.cells a.as) o2], .agg [.int .i64 a.k, .int .i64 a.i, .int .i64 a.ty.k, .sl (List.map RT.cells a.ty.as) o3, .sl (List.map RM.cells a.as) o4]] = some (.bool true, S) := by
    intro a ha
    have h : ∀ (g : Nat) (S : St) (o1 o2 o3 o4 : Own), callT (X.at g) (den X E) S 26 [.agg [.int .i64 a.k, .int .i64 a.i, .int .i64 a.ty.k, .sl (List.map RT.cells a.ty.as) o1, .sl (List.map RM.cells a.as) o2], .agg [.int .i64 a.k, .int .i64 a.i, .int .i64 a.ty.k, .sl (List.map RT.cells a.ty.as) o3, .sl (List.map RM.cells a.as) o4]] = some (.bool true, S) := by
      intros
      simpa using call_up (cf := X.at _) (fn := Tryz.f26) (args' := [_, _]) (by kernel_rfl) (by simp) (by simp; try rfl) (ih a ha (by have := RM.nodes_mem (k := k) (i := i) (t := t) ha; omega)) _
    exact h
  have hlen := RM.nodes_len k i t l
  have hty := RM.nodes_ty k i t l
  have c1 := same1_c (E := E) (k := t.k) (m := t.k) (ts := t.as) (us := t.as) (by simp; omega)
  have hb : (RT.mk t.k t.as).beq (.mk t.k t.as) = true := (RT.beq_iff _ _).2 rfl
  rw [hb] at c1
  refine den_w0 (fn := Tryz.f26) (by rfl) (by rfl) (by kernel_rfl) rfl (by rfl) ?_
  simp -implicitDefEqProofs
  (repeat (first | refine Wp.seq ?_ | refine Wp.block ?_ | refine Wp.skip ?_ | refine Wp.exit ?_ | refine Wp.ret ?_ | refine thenK_n ?_ | refine thenK_r ?_ | refine thenK_e ?_ | refine blockK_n ?_ | refine blockK_r ?_ | refine blockK_e ?_ | refine blockK_o (by decide) ?_ | (refine Wp.condT ?_ ?_; focus (simp -implicitDefEqProofs [c1] <;> fail)) | (refine Wp.condF ?_ ?_; focus (simp -implicitDefEqProofs [c1] <;> fail)) | refine Wp.reg (by simp -implicitDefEqProofs [c1]; exact ⟨rfl, rfl⟩) ?_ | refine Wp.regA (by simp -implicitDefEqProofs [c1]; exact ⟨rfl, rfl⟩) (by rfl) ?_))
  refine Wp.loopF [4, 5, 38, 39, 40, 41, 42, 43, 44, 45, 46, 47, 48, 49, 50, 51, 52, 53] [] (fun n w c tk => ∃ done rest, l = done ++ rest ∧ n = rest.length ∧ w 38 = .int .i64 done.length) (l.length) ?_ ?_ ?_ ?_
  · rfl
  · rfl
  · exact ⟨[], l, by simp, rfl, rfl⟩
  rintro n w c junk tk r σ ⟨done, rest, hl, rfl, h38⟩ hr hσ
  simp -implicitDefEqProofs [h38] at hr hσ
  subst hr hσ
  rcases rest with _ | ⟨a, rest⟩
  · simp at hl
    subst hl
    (repeat (first | refine Wp.seq ?_ | refine Wp.block ?_ | refine Wp.skip ?_ | refine Wp.exit ?_ | refine Wp.ret ?_ | refine thenK_n ?_ | refine thenK_r ?_ | refine thenK_e ?_ | refine blockK_n ?_ | refine blockK_r ?_ | refine blockK_e ?_ | refine blockK_o (by decide) ?_ | (refine Wp.condT ?_ ?_; focus (simp -implicitDefEqProofs <;> fail)) | (refine Wp.condF ?_ ?_; focus (simp -implicitDefEqProofs <;> fail)) | refine Wp.reg (by simp -implicitDefEqProofs; exact ⟨rfl, rfl⟩) ?_ | refine Wp.regA (by simp -implicitDefEqProofs; exact ⟨rfl, rfl⟩) (by rfl) ?_))
    (apply endK_r; (focus (simp -implicitDefEqProofs [Tryz.f26]; try rfl)); (focus (intro g; simp -implicitDefEqProofs [Tryz.f26])); exact ⟨_, rfl⟩)
  · have ha : el l done.length = some a := by simp [hl]
    have hlt : done.length < l.length := by simp [hl]
    have hmem : a ∈ l := by simp [hl]
    have hw : IntKind.i64.wrap ((done.length : Int) + 1) = done.length + 1 := IntWalk.i64_in _ (by omega)
    have hi := ihc a hmem
    (repeat (first | refine Wp.seq ?_ | refine Wp.block ?_ | refine Wp.skip ?_ | refine Wp.exit ?_ | refine Wp.ret ?_ | refine thenK_n ?_ | refine thenK_r ?_ | refine thenK_e ?_ | refine blockK_n ?_ | refine blockK_r ?_ | refine blockK_e ?_ | refine blockK_o (by decide) ?_ | (refine Wp.condT ?_ ?_; focus (simp -implicitDefEqProofs [ha, hlt, hw, hi] <;> fail)) | (refine Wp.condF ?_ ?_; focus (simp -implicitDefEqProofs [ha, hlt, hw, hi] <;> fail)) | refine Wp.reg (by simp -implicitDefEqProofs [ha, hlt, hw, hi]; exact ⟨rfl, rfl⟩) ?_ | refine Wp.regA (by simp -implicitDefEqProofs [ha, hlt, hw, hi]; exact ⟨rfl, rfl⟩) (by rfl) ?_))
    refine ⟨by simp, ⟨_, by simp -implicitDefEqProofs; rfl⟩, rest.length, by simp, done ++ [a], rest, by simp [hl], rfl, by simp⟩
theorem same2_c {k i m : Int} {us : List RT} {ts : List RM} (ht : (RM.mk k i (.mk m us) ts).nodes ≤ 1000000000) (g : Nat) (S : St) (o1 o2 o3 o4 : Own) : callT (X.at g) (den X E) S 26 [.agg [.int .i64 k, .int .i64 i, .int .i64 m, .sl (List.map RT.cells us) o1, .sl (List.map RM.cells ts) o2], .agg [.int .i64 k, .int .i64 i, .int .i64 m, .sl (List.map RT.cells us) o3, .sl (List.map RM.cells ts) o4]] = some (.bool true, S) := by
  simpa using call_up (cf := X.at g) (fn := Tryz.f26) (args' := [.agg [.int .i64 k, .int .i64 i, .int .i64 m, .sl (List.map RT.cells us) o1, .sl (List.map RM.cells ts) o2], .agg [.int .i64 k, .int .i64 i, .int .i64 m, .sl (List.map RT.cells us) o3, .sl (List.map RM.cells ts) o4]]) (by kernel_rfl) (by simp) (by simp; try rfl) (same2 (.mk k i (.mk m us) ts) ht) S
end M
namespace T
open M
theorem Tm.raw_put (x t : Tm) : ∀ c : Nat, (Tm.put x c t).raw = RM.putr x.raw t.raw c := by
  induction t with
  | var i =>
    intro c
    simp only [Tm.put, Tm.raw, RM.putr_mk, if_true]
    by_cases h : i = c
    · subst h; simp [Tm.raw_lift]
    · have h' : ¬ (i : Int) = c := by omega
      by_cases h2 : c < i
      · have h3 : ((i - 1 : Nat) : Int) = i - 1 := by omega
        simp [h, h', h2, Tm.raw, noTy, h3]
      · simp [h, h', h2, Tm.raw]
  | lam s b ih => intro c; have := ih (c + 1); simp [Tm.put, Tm.raw, RM.putr_mk, this]
  | _ => intro c; simp_all [Tm.put, Tm.raw, RM.putr_mk]
/-- How often a variable is free. -/
def Tm.times : Tm → Nat → Nat
  | .var i, k => if i = k then 1 else 0
  | .lam _ b, k => b.times (k + 1)
  | .app f a, k => f.times k + a.times k
  | .succ a, k => a.times k
  | .recn _ b f n, k => b.times k + f.times k + n.times k
  | .cons h l, k => h.times k + l.times k
  | .fold _ b f l, k => b.times k + f.times k + l.times k
  | .pair a b, k => a.times k + b.times k
  | .fst p, k => p.times k
  | .snd p, k => p.times k
  | _, _ => 0
theorem Tm.raw_times (t : Tm) : ∀ c : Nat, t.raw.times c = t.times c := by
  induction t with
  | var i => intro c; simp [Tm.raw, RM.times_mk, Tm.times]; split <;> split <;> omega
  | lam s b ih => intro c; have := ih (c + 1); simp [Tm.raw, RM.times_mk, Tm.times] at this ⊢; omega
  | _ => intro c; simp_all [Tm.raw, RM.times_mk, Tm.times] <;> try omega
theorem Tm.lift_size (n : Nat) (t : Tm) : ∀ c, (t.lift n c).size = t.size := by
  induction t with
  | var i => intro c; simp only [Tm.lift]; split <;> rfl
  | _ => intro c; simp_all [Tm.lift, Tm.size]
theorem Tm.put_size (x t : Tm) : ∀ c : Nat, (Tm.put x c t).size = t.size + t.times c * (x.size - 1) := by
  have hx := x.size_pos
  induction t with
  | var i =>
    intro c
    simp only [Tm.put, Tm.times]
    by_cases h : i = c
    · rw [if_pos h, if_pos h, Tm.lift_size]; simp only [Tm.size]; omega
    · rw [if_neg h, if_neg h]; split <;> simp [Tm.size]
  | lam s b ih => intro c; simp only [Tm.put, Tm.size, Tm.times, ih]; omega
  | app a b ih1 ih2 => intro c; simp only [Tm.put, Tm.size, Tm.times, ih1, ih2, Nat.add_mul]; omega
  | cons a b ih1 ih2 => intro c; simp only [Tm.put, Tm.size, Tm.times, ih1, ih2, Nat.add_mul]; omega
  | pair a b ih1 ih2 => intro c; simp only [Tm.put, Tm.size, Tm.times, ih1, ih2, Nat.add_mul]; omega
  | recn s a b n ih1 ih2 ih3 => intro c; simp only [Tm.put, Tm.size, Tm.times, ih1, ih2, ih3, Nat.add_mul]; omega
  | fold s a b n ih1 ih2 ih3 => intro c; simp only [Tm.put, Tm.size, Tm.times, ih1, ih2, ih3, Nat.add_mul]; omega
  | succ a ih => intro c; simp only [Tm.put, Tm.size, Tm.times, ih]; omega
  | fst a ih => intro c; simp only [Tm.put, Tm.size, Tm.times, ih]; omega
  | snd a ih => intro c; simp only [Tm.put, Tm.size, Tm.times, ih]; omega
  | _ => intro c; simp [Tm.put, Tm.size, Tm.times]
theorem Tm.put_small (x t : Tm) (hx : x.small = true) : ∀ c, t.small = true → (Tm.put x c t).small = true := by
  induction t with
  | var i => intro c _; simp only [Tm.put]; split; · rw [Tm.small_lift]; exact hx
             split <;> rfl
  | _ => intro c h; simp_all [Tm.put, Tm.small]
theorem Tm.put_idx (x t : Tm) {b : Nat} (hx : x.idx b = true) : ∀ c, t.idx b = true → (Tm.put x c t).idx (b + c + t.size) = true := by
  induction t with
  | var i =>
    intro c h
    simp only [Tm.idx, decide_eq_true_eq] at h
    simp only [Tm.put]
    split
    · exact Tm.idx_mono (by omega) _ (Tm.idx_lift b c x 0 hx)
    split <;> simp only [Tm.idx, decide_eq_true_eq] <;> omega
  | lam s t ih => intro c h; simp only [Tm.put, Tm.idx, Tm.size] at h ⊢; exact Tm.idx_mono (by omega) _ (ih (c + 1) h)
  | app a t ih1 ih2 => intro c h; simp only [Tm.put, Tm.idx, Tm.size, Bool.and_eq_true] at h ⊢; exact ⟨Tm.idx_mono (by omega) _ (ih1 c h.1), Tm.idx_mono (by omega) _ (ih2 c h.2)⟩
  | cons a t ih1 ih2 => intro c h; simp only [Tm.put, Tm.idx, Tm.size, Bool.and_eq_true] at h ⊢; exact ⟨Tm.idx_mono (by omega) _ (ih1 c h.1), Tm.idx_mono (by omega) _ (ih2 c h.2)⟩
  | pair a t ih1 ih2 => intro c h; simp only [Tm.put, Tm.idx, Tm.size, Bool.and_eq_true] at h ⊢; exact ⟨Tm.idx_mono (by omega) _ (ih1 c h.1), Tm.idx_mono (by omega) _ (ih2 c h.2)⟩
  | recn s a t n ih1 ih2 ih3 => intro c h; simp only [Tm.put, Tm.idx, Tm.size, Bool.and_eq_true] at h ⊢; exact ⟨⟨Tm.idx_mono (by omega) _ (ih1 c h.1.1), Tm.idx_mono (by omega) _ (ih2 c h.1.2)⟩, Tm.idx_mono (by omega) _ (ih3 c h.2)⟩
  | fold s a t n ih1 ih2 ih3 => intro c h; simp only [Tm.put, Tm.idx, Tm.size, Bool.and_eq_true] at h ⊢; exact ⟨⟨Tm.idx_mono (by omega) _ (ih1 c h.1.1), Tm.idx_mono (by omega) _ (ih2 c h.1.2)⟩, Tm.idx_mono (by omega) _ (ih3 c h.2)⟩
  | succ a ih => intro c h; simp only [Tm.put, Tm.idx, Tm.size] at h ⊢; exact Tm.idx_mono (by omega) _ (ih c h)
  | fst a ih => intro c h; simp only [Tm.put, Tm.idx, Tm.size] at h ⊢; exact Tm.idx_mono (by omega) _ (ih c h)
  | snd a ih => intro c h; simp only [Tm.put, Tm.idx, Tm.size] at h ⊢; exact Tm.idx_mono (by omega) _ (ih c h)
  | _ => intro c h; rfl
end T
end Go.Proofs.YthclcchnodjjpaaGreatDoor
