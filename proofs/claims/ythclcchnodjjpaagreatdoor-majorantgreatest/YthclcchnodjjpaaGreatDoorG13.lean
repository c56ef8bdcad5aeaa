/- A part of the proof: TmD, TmE, TmF, Cl. -/
import Derived.Test.YthclcchnodjjpaaGreatDoorG12
import Derived.Test.YthclcchnodjjpaaGreatDoorG10
/- tree.Arity, Typed, NoType. -/
set_option linter.unusedVariables false
set_option linter.unusedSimpArgs false
set_option maxRecDepth 10000
set_option maxHeartbeats 4000000
namespace Go.Proofs.YthclcchnodjjpaaGreatDoor
namespace M
attribute [local irreducible] Wp thenK blockK endK
variable {E : Oracle}
open T (Ty Tm)
theorem ev_glob (r : Regs) (g : Nat) : ev r (.global g) = (globs.lookup g).map .rp := rfl
attribute [local simp] ev_glob globs
def RM.known (k : Int) : Bool := decide (1 ≤ k ∧ k ≤ 13)
theorem RM.known_iff (k : Int) : RM.known k = true ↔ (k = 1 ∨ k = 2 ∨ k = 3 ∨ k = 4 ∨ k = 5 ∨ k = 6 ∨ k = 7 ∨ k = 8 ∨ k = 9 ∨ k = 10 ∨ k = 11 ∨ k = 12 ∨ k = 13) := by
  unfold RM.known
  rw [decide_eq_true_eq]
  omega
theorem RM.arity_bad {k : Int} (h : RM.known k = false) : RM.arity k = -1 := by
  have : ¬ (1 ≤ k ∧ k ≤ 13) := by simpa [RM.known] using h
  unfold RM.arity
  rw [if_neg (by omega), if_neg (by omega), if_neg (by omega), if_neg (by omega)]
theorem arity (k : Int) : den X E 125 [.int .i64 k] [] = some (.tup [.int .i64 (if RM.known k then RM.arity k else 0), .bool (RM.known k)], []) := by
  cases hk : RM.known k with
  | true =>
    rcases (RM.known_iff k).1 hk with rfl | rfl | rfl | rfl | rfl | rfl | rfl | rfl | rfl | rfl | rfl | rfl | rfl
    all_goals
      refine den_w0 (fn := Tryz.f125) (by rfl) (by rfl) (by kernel_rfl) rfl (by rfl) ?_
      simp -implicitDefEqProofs
      (repeat (first | refine Wp.seq ?_ | refine Wp.block ?_ | refine Wp.skip ?_ | refine Wp.exit ?_ | refine Wp.ret ?_ | refine thenK_n ?_ | refine thenK_r ?_ | refine thenK_e ?_ | refine blockK_n ?_ | refine blockK_r ?_ | refine blockK_e ?_ | refine blockK_o (by decide) ?_ | (refine Wp.condT ?_ ?_; focus (simp -implicitDefEqProofs <;> fail)) | (refine Wp.condF ?_ ?_; focus (simp -implicitDefEqProofs <;> fail)) | refine Wp.reg (by simp -implicitDefEqProofs; exact ⟨rfl, rfl⟩) ?_ | refine Wp.regA (by simp -implicitDefEqProofs; exact ⟨rfl, rfl⟩) (by rfl) ?_))
      (apply endK_r; (focus (simp -implicitDefEqProofs [Tryz.f125, RM.arity]; try rfl)); (focus (intro g; simp -implicitDefEqProofs [Tryz.f125, RM.arity])); exact ⟨_, rfl⟩)
  | false =>
    have hk' : ¬ (1 ≤ k ∧ k ≤ 13) := by simpa [RM.known] using hk
    by_cases h1 : k < 1
    · refine den_w0 (fn := Tryz.f125) (by rfl) (by rfl) (by kernel_rfl) rfl (by rfl) ?_
      simp -implicitDefEqProofs
      (repeat (first | refine Wp.seq ?_ | refine Wp.block ?_ | refine Wp.skip ?_ | refine Wp.exit ?_ | refine Wp.ret ?_ | refine thenK_n ?_ | refine thenK_r ?_ | refine thenK_e ?_ | refine blockK_n ?_ | refine blockK_r ?_ | refine blockK_e ?_ | refine blockK_o (by decide) ?_ | (refine Wp.condT ?_ ?_; focus (simp -implicitDefEqProofs [h1] <;> fail)) | (refine Wp.condF ?_ ?_; focus (simp -implicitDefEqProofs [h1] <;> fail)) | refine Wp.reg (by simp -implicitDefEqProofs [h1]; exact ⟨rfl, rfl⟩) ?_ | refine Wp.regA (by simp -implicitDefEqProofs [h1]; exact ⟨rfl, rfl⟩) (by rfl) ?_))
      (apply endK_r; (focus (simp -implicitDefEqProofs [Tryz.f125]; try rfl)); (focus (intro g; simp -implicitDefEqProofs [Tryz.f125])); exact ⟨_, rfl⟩)
    · have h2 : 14 ≤ k := by omega
      refine den_w0 (fn := Tryz.f125) (by rfl) (by rfl) (by kernel_rfl) rfl (by rfl) ?_
      simp -implicitDefEqProofs
      (repeat (first | refine Wp.seq ?_ | refine Wp.block ?_ | refine Wp.skip ?_ | refine Wp.exit ?_ | refine Wp.ret ?_ | refine thenK_n ?_ | refine thenK_r ?_ | refine thenK_e ?_ | refine blockK_n ?_ | refine blockK_r ?_ | refine blockK_e ?_ | refine blockK_o (by decide) ?_ | (refine Wp.condT ?_ ?_; focus (simp -implicitDefEqProofs [h1, h2] <;> fail)) | (refine Wp.condF ?_ ?_; focus (simp -implicitDefEqProofs [h1, h2] <;> fail)) | refine Wp.reg (by simp -implicitDefEqProofs [h1, h2]; exact ⟨rfl, rfl⟩) ?_ | refine Wp.regA (by simp -implicitDefEqProofs [h1, h2]; exact ⟨rfl, rfl⟩) (by rfl) ?_))
      (apply endK_r; (focus (simp -implicitDefEqProofs [Tryz.f125]; try rfl)); (focus (intro g; simp -implicitDefEqProofs [Tryz.f125])); exact ⟨_, rfl⟩)
theorem arity_c (k : Int) (g : Nat) (S : St)  : callT (X.at g) (den X E) S 125 [.int .i64 k] = some (.tup [.int .i64 (if RM.known k then RM.arity k else 0), .bool (RM.known k)], S) := by
  simpa using call_up (cf := X.at g) (fn := Tryz.f125) (args' := [.int .i64 k]) (by kernel_rfl) (by simp) (by simp; try rfl) (arity k) S
def RM.typed (k : Int) : Bool := decide (k = 2 ∨ k = 6 ∨ k = 9)
theorem typed1 (k : Int) : den X E 126 [.int .i64 k] [] = some (.bool (RM.typed k), []) := by
  by_cases h2 : k = 2
  · subst h2
    refine den_w0 (fn := Tryz.f126) (by rfl) (by rfl) (by kernel_rfl) rfl (by rfl) ?_
    simp -implicitDefEqProofs
    (repeat (first | refine Wp.seq ?_ | refine Wp.block ?_ | refine Wp.skip ?_ | refine Wp.exit ?_ | refine Wp.ret ?_ | refine thenK_n ?_ | refine thenK_r ?_ | refine thenK_e ?_ | refine blockK_n ?_ | refine blockK_r ?_ | refine blockK_e ?_ | refine blockK_o (by decide) ?_ | (refine Wp.condT ?_ ?_; focus (simp -implicitDefEqProofs <;> fail)) | (refine Wp.condF ?_ ?_; focus (simp -implicitDefEqProofs <;> fail)) | refine Wp.reg (by simp -implicitDefEqProofs; exact ⟨rfl, rfl⟩) ?_ | refine Wp.regA (by simp -implicitDefEqProofs; exact ⟨rfl, rfl⟩) (by rfl) ?_))
    (apply endK_r; (focus (simp -implicitDefEqProofs [Tryz.f126, RM.typed]; try rfl)); (focus (intro g; simp -implicitDefEqProofs [Tryz.f126, RM.typed])); exact ⟨_, rfl⟩)
  by_cases h6 : k = 6
  · subst h6
    refine den_w0 (fn := Tryz.f126) (by rfl) (by rfl) (by kernel_rfl) rfl (by rfl) ?_
    simp -implicitDefEqProofs
    (repeat (first | refine Wp.seq ?_ | refine Wp.block ?_ | refine Wp.skip ?_ | refine Wp.exit ?_ | refine Wp.ret ?_ | refine thenK_n ?_ | refine thenK_r ?_ | refine thenK_e ?_ | refine blockK_n ?_ | refine blockK_r ?_ | refine blockK_e ?_ | refine blockK_o (by decide) ?_ | (refine Wp.condT ?_ ?_; focus (simp -implicitDefEqProofs <;> fail)) | (refine Wp.condF ?_ ?_; focus (simp -implicitDefEqProofs <;> fail)) | refine Wp.reg (by simp -implicitDefEqProofs; exact ⟨rfl, rfl⟩) ?_ | refine Wp.regA (by simp -implicitDefEqProofs; exact ⟨rfl, rfl⟩) (by rfl) ?_))
    (apply endK_r; (focus (simp -implicitDefEqProofs [Tryz.f126, RM.typed]; try rfl)); (focus (intro g; simp -implicitDefEqProofs [Tryz.f126, RM.typed])); exact ⟨_, rfl⟩)
  · refine den_w0 (fn := Tryz.f126) (by rfl) (by rfl) (by kernel_rfl) rfl (by rfl) ?_
    simp -implicitDefEqProofs
    (repeat (first | refine Wp.seq ?_ | refine Wp.block ?_ | refine Wp.skip ?_ | refine Wp.exit ?_ | refine Wp.ret ?_ | refine thenK_n ?_ | refine thenK_r ?_ | refine thenK_e ?_ | refine blockK_n ?_ | refine blockK_r ?_ | refine blockK_e ?_ | refine blockK_o (by decide) ?_ | (refine Wp.condT ?_ ?_; focus (simp -implicitDefEqProofs [h2, h6] <;> fail)) | (refine Wp.condF ?_ ?_; focus (simp -implicitDefEqProofs [h2, h6] <;> fail)) | refine Wp.reg (by simp -implicitDefEqProofs [h2, h6]; exact ⟨rfl, rfl⟩) ?_ | refine Wp.regA (by simp -implicitDefEqProofs [h2, h6]; exact ⟨rfl, rfl⟩) (by rfl) ?_))
    (apply endK_r; (focus (simp -implicitDefEqProofs [Tryz.f126, RM.typed, h2, h6]; try rfl)); (focus (intro g; simp -implicitDefEqProofs [Tryz.f126, RM.typed, h2, h6]; rfl)); exact ⟨_, rfl⟩)
theorem typed1_c (k : Int) (g : Nat) (S : St)  : callT (X.at g) (den X E) S 126 [.int .i64 k] = some (.bool (RM.typed k), S) := by
  simpa using call_up (cf := X.at g) (fn := Tryz.f126) (args' := [.int .i64 k]) (by kernel_rfl) (by simp) (by simp; try rfl) (typed1 k) S
theorem noType1 (t : RT) : den X E 127 [t.enc] [] = some (.bool (decide (t.k = 0 ∧ t.as.length = 0)), []) := by
  by_cases h : t.k = 0
  · refine den_w0 (fn := Tryz.f127) (by rfl) (by rfl) (by kernel_rfl) rfl (by rfl) ?_
    simp -implicitDefEqProofs
    (repeat (first | refine Wp.seq ?_ | refine Wp.block ?_ | refine Wp.skip ?_ | refine Wp.exit ?_ | refine Wp.ret ?_ | refine thenK_n ?_ | refine thenK_r ?_ | refine thenK_e ?_ | refine blockK_n ?_ | refine blockK_r ?_ | refine blockK_e ?_ | refine blockK_o (by decide) ?_ | (refine Wp.condT ?_ ?_; focus (simp -implicitDefEqProofs [h] <;> fail)) | (refine Wp.condF ?_ ?_; focus (simp -implicitDefEqProofs [h] <;> fail)) | refine Wp.reg (by simp -implicitDefEqProofs [h]; exact ⟨rfl, rfl⟩) ?_ | refine Wp.regA (by simp -implicitDefEqProofs [h]; exact ⟨rfl, rfl⟩) (by rfl) ?_))
    (apply endK_r; (focus (simp -implicitDefEqProofs [Tryz.f127, h]; try rfl)); (focus (intro g; simp -implicitDefEqProofs [Tryz.f127, h])); exact ⟨_, rfl⟩)
  · refine den_w0 (fn := Tryz.f127) (by rfl) (by rfl) (by kernel_rfl) rfl (by rfl) ?_
    simp -implicitDefEqProofs
    (repeat (first | refine Wp.seq ?_ | refine Wp.block ?_ | refine Wp.skip ?_ | refine Wp.exit ?_ | refine Wp.ret ?_ | refine thenK_n ?_ | refine thenK_r ?_ | refine thenK_e ?_ | refine blockK_n ?_ | refine blockK_r ?_ | refine blockK_e ?_ | refine blockK_o (by decide) ?_ | (refine Wp.condT ?_ ?_; focus (simp -implicitDefEqProofs [h] <;> fail)) | (refine Wp.condF ?_ ?_; focus (simp -implicitDefEqProofs [h] <;> fail)) | refine Wp.reg (by simp -implicitDefEqProofs [h]; exact ⟨rfl, rfl⟩) ?_ | refine Wp.regA (by simp -implicitDefEqProofs [h]; exact ⟨rfl, rfl⟩) (by rfl) ?_))
    (apply endK_r; (focus (simp -implicitDefEqProofs [Tryz.f127, h]; try rfl)); (focus (intro g; simp -implicitDefEqProofs [Tryz.f127, h])); exact ⟨_, rfl⟩)
theorem noType1_c {k : Int} {ts : List RT} (g : Nat) (S : St) (o1 : Own) : callT (X.at g) (den X E) S 127 [.agg [.int .i64 k, .sl (List.map RT.cells ts) o1]] = some (.bool (decide (k = 0 ∧ ts.length = 0)), S) := by
  simpa using call_up (cf := X.at g) (fn := Tryz.f127) (args' := [.agg [.int .i64 k, .sl (List.map RT.cells ts) o1]]) (by kernel_rfl) (by simp) (by simp; try rfl) (noType1 (.mk k ts)) S
end M
end Go.Proofs.YthclcchnodjjpaaGreatDoor
/- tree.termNodes, CheckTerm, terms.Check. -/
set_option linter.unusedVariables false
set_option linter.unusedSimpArgs false
set_option maxRecDepth 10000
set_option maxHeartbeats 4000000
namespace Go.Proofs.YthclcchnodjjpaaGreatDoor
namespace M
attribute [local irreducible] Wp thenK blockK endK
variable {E : Oracle}
open T (Ty Tm)
theorem termNodes (t : RM) (ht : t.nodes ≤ 1000000000) : den X E 112 [t.enc] [] = some (.tup [.int .i64 (if t.ok then t.count else 0), .bool t.ok], []) := by
  induction t using RM.ind with | h k i t l ih =>
  have ihc : ∀ a ∈ l, ∀ (g : Nat) (S : St) (o1 o2 : Own), callT (X.at g) (den X E) S 112 [.agg [.int .i64 a.k, .int .i64 a.i, .int .i64 a.ty.k, .sl (List.map RT.cells a.ty.as) o1, .sl (List.map RM.cells a.as) o2]] = some (.tup [.int .i64 (if a.ok then a.count else 0), .bool a.ok], S) := by
    intros
    simpa using call_up (cf := X.at _) (fn := Tryz.f112) (args' := [_]) (by kernel_rfl) (by simp) (by simp; try rfl) (ih _ (by assumption) (by have := RM.nodes_mem (k := k) (i := i) (t := t) (l := l) (by assumption); omega)) _
  have hlen := RM.nodes_len k i t l
  have hty := RM.nodes_ty k i t l
  have hcnt := RM.count_mk k i t l
  have hcl := RM.count_le (.mk k i t l)
  have c1 := checkType_c (E := E) (k := t.k) (ts := t.as) (by simp; omega)
  simp at c1
  have c2 := noType1_c (E := E) (k := t.k) (ts := t.as)
  simp at c2
  refine den_w0 (fn := Tryz.f112) (by rfl) (by rfl) (by kernel_rfl) rfl (by rfl) ?_
  simp -implicitDefEqProofs
  cases hkn : RM.known k with
  | false =>
    have har := RM.arity_bad hkn
    have hb := ok2_false (t := t) (l := l) (k := k) (i := i) (fun h => by have := h.1; rw [har] at this; omega)
    (repeat (first | refine Wp.seq ?_ | refine Wp.block ?_ | refine Wp.skip ?_ | refine Wp.exit ?_ | refine Wp.ret ?_ | refine thenK_n ?_ | refine thenK_r ?_ | refine thenK_e ?_ | refine blockK_n ?_ | refine blockK_r ?_ | refine blockK_e ?_ | refine blockK_o (by decide) ?_ | (refine Wp.condT ?_ ?_; focus (simp -implicitDefEqProofs [arity_c, hkn] <;> fail)) | (refine Wp.condF ?_ ?_; focus (simp -implicitDefEqProofs [arity_c, hkn] <;> fail)) | refine Wp.reg (by simp -implicitDefEqProofs [arity_c, hkn]; exact ⟨rfl, rfl⟩) ?_ | refine Wp.regA (by simp -implicitDefEqProofs [arity_c, hkn]; exact ⟨rfl, rfl⟩) (by rfl) ?_))
    (apply endK_r; (focus (simp -implicitDefEqProofs [Tryz.f112, hb]; try rfl)); (focus (intro g; simp -implicitDefEqProofs [Tryz.f112, hb])); exact ⟨_, rfl⟩)
  | true =>
  by_cases h1 : (l.length : Int) = RM.arity k
  rotate_left
  · have hb := ok2_false (t := t) (l := l) (k := k) (i := i) (fun h => h1 h.1)
    (repeat (first | refine Wp.seq ?_ | refine Wp.block ?_ | refine Wp.skip ?_ | refine Wp.exit ?_ | refine Wp.ret ?_ | refine thenK_n ?_ | refine thenK_r ?_ | refine thenK_e ?_ | refine blockK_n ?_ | refine blockK_r ?_ | refine blockK_e ?_ | refine blockK_o (by decide) ?_ | (refine Wp.condT ?_ ?_; focus (simp -implicitDefEqProofs [arity_c, hkn, h1] <;> fail)) | (refine Wp.condF ?_ ?_; focus (simp -implicitDefEqProofs [arity_c, hkn, h1] <;> fail)) | refine Wp.reg (by simp -implicitDefEqProofs [arity_c, hkn, h1]; exact ⟨rfl, rfl⟩) ?_ | refine Wp.regA (by simp -implicitDefEqProofs [arity_c, hkn, h1]; exact ⟨rfl, rfl⟩) (by rfl) ?_))
    (apply endK_r; (focus (simp -implicitDefEqProofs [Tryz.f112, hb]; try rfl)); (focus (intro g; simp -implicitDefEqProofs [Tryz.f112, hb])); exact ⟨_, rfl⟩)
  by_cases h2 : i < 0
  · have hb := ok2_false (t := t) (l := l) (k := k) (i := i) (fun h => by omega)
    (repeat (first | refine Wp.seq ?_ | refine Wp.block ?_ | refine Wp.skip ?_ | refine Wp.exit ?_ | refine Wp.ret ?_ | refine thenK_n ?_ | refine thenK_r ?_ | refine thenK_e ?_ | refine blockK_n ?_ | refine blockK_r ?_ | refine blockK_e ?_ | refine blockK_o (by decide) ?_ | (refine Wp.condT ?_ ?_; focus (simp -implicitDefEqProofs [arity_c, hkn, h1, h2] <;> fail)) | (refine Wp.condF ?_ ?_; focus (simp -implicitDefEqProofs [arity_c, hkn, h1, h2] <;> fail)) | refine Wp.reg (by simp -implicitDefEqProofs [arity_c, hkn, h1, h2]; exact ⟨rfl, rfl⟩) ?_ | refine Wp.regA (by simp -implicitDefEqProofs [arity_c, hkn, h1, h2]; exact ⟨rfl, rfl⟩) (by rfl) ?_))
    (apply endK_r; (focus (simp -implicitDefEqProofs [Tryz.f112, hb]; try rfl)); (focus (intro g; simp -implicitDefEqProofs [Tryz.f112, hb])); exact ⟨_, rfl⟩)
  by_cases h3 : k = 1 ∨ i = 0
  rotate_left
  · have hb := ok2_false (t := t) (l := l) (k := k) (i := i) (fun h => h3 h.2.2)
    simp only [not_or] at h3
    (repeat (first | refine Wp.seq ?_ | refine Wp.block ?_ | refine Wp.skip ?_ | refine Wp.exit ?_ | refine Wp.ret ?_ | refine thenK_n ?_ | refine thenK_r ?_ | refine thenK_e ?_ | refine blockK_n ?_ | refine blockK_r ?_ | refine blockK_e ?_ | refine blockK_o (by decide) ?_ | (refine Wp.condT ?_ ?_; focus (simp -implicitDefEqProofs [arity_c, hkn, h1, h2, h3.1, h3.2] <;> fail)) | (refine Wp.condF ?_ ?_; focus (simp -implicitDefEqProofs [arity_c, hkn, h1, h2, h3.1, h3.2] <;> fail)) | refine Wp.reg (by simp -implicitDefEqProofs [arity_c, hkn, h1, h2, h3.1, h3.2]; exact ⟨rfl, rfl⟩) ?_ | refine Wp.regA (by simp -implicitDefEqProofs [arity_c, hkn, h1, h2, h3.1, h3.2]; exact ⟨rfl, rfl⟩) (by rfl) ?_))
    (apply endK_r; (focus (simp -implicitDefEqProofs [Tryz.f112, hb]; try rfl)); (focus (intro g; simp -implicitDefEqProofs [Tryz.f112, hb])); exact ⟨_, rfl⟩)
  have hok := ok2_true (t := t) (l := l) (k := k) (i := i) ⟨h1, by omega, h3⟩
  have hcase : (i = 0) ∨ (¬ i = 0 ∧ k = 1) := by omega
  rcases hcase with rfl | ⟨hi0, rfl⟩
  · (repeat (first | refine Wp.seq ?_ | refine Wp.skip ?_ | refine Wp.exit ?_ | refine Wp.ret ?_ | refine thenK_n ?_ | refine thenK_r ?_ | refine thenK_e ?_ | refine blockK_n ?_ | refine blockK_r ?_ | refine blockK_e ?_ | refine blockK_o (by decide) ?_ | (refine Wp.condT ?_ ?_; focus (simp -implicitDefEqProofs [arity_c, hkn, h1, typed1_c] <;> fail)) | (refine Wp.condF ?_ ?_; focus (simp -implicitDefEqProofs [arity_c, hkn, h1, typed1_c] <;> fail)) | refine Wp.reg (by simp -implicitDefEqProofs [arity_c, hkn, h1, typed1_c]; exact ⟨rfl, rfl⟩) ?_ | refine Wp.regA (by simp -implicitDefEqProofs [arity_c, hkn, h1, typed1_c]; exact ⟨rfl, rfl⟩) (by rfl) ?_))
    refine Wp.cutF [6, 7, 46, 47, 48, 49, 50, 51, 52, 53, 54, 55, 56, 57] [] (fun w c tk => RM.tyOk k t = true ∧ tk = []) ?_ ?_ ?_ ?_
    · rfl
    · rfl
    · cases hty2 : RM.typed k with
      | true =>
        have hto : RM.tyOk k t = decide (t.err = 0) := by simp only [RM.typed, decide_eq_true_eq] at hty2; simp only [RM.tyOk, if_pos hty2]
        by_cases he : t.err = 0
        · (repeat (first | refine Wp.seq ?_ | refine Wp.block ?_ | refine Wp.skip ?_ | refine Wp.exit ?_ | refine Wp.ret ?_ | refine thenK_n ?_ | refine thenK_r ?_ | refine thenK_e ?_ | refine blockK_n ?_ | refine blockK_r ?_ | refine blockK_e ?_ | refine blockK_o (by decide) ?_ | (refine Wp.condT ?_ ?_; focus (simp -implicitDefEqProofs [c1, he, hty2] <;> fail)) | (refine Wp.condF ?_ ?_; focus (simp -implicitDefEqProofs [c1, he, hty2] <;> fail)) | refine Wp.reg (by simp -implicitDefEqProofs [c1, he, hty2]; exact ⟨rfl, rfl⟩) ?_ | refine Wp.regA (by simp -implicitDefEqProofs [c1, he, hty2]; exact ⟨rfl, rfl⟩) (by rfl) ?_)); refine ⟨by simp, ⟨_, by simp -implicitDefEqProofs; rfl⟩, by simp [hto, he]⟩
        · have hof : (RM.mk k 0 t l).ok = false := by rw [hok, hto]; simp [he]
          (repeat (first | refine Wp.seq ?_ | refine Wp.block ?_ | refine Wp.skip ?_ | refine Wp.exit ?_ | refine Wp.ret ?_ | refine thenK_n ?_ | refine thenK_r ?_ | refine thenK_e ?_ | refine blockK_n ?_ | refine blockK_r ?_ | refine blockK_e ?_ | refine blockK_o (by decide) ?_ | (refine Wp.condT ?_ ?_; focus (simp -implicitDefEqProofs [c1, he, hty2] <;> fail)) | (refine Wp.condF ?_ ?_; focus (simp -implicitDefEqProofs [c1, he, hty2] <;> fail)) | refine Wp.reg (by simp -implicitDefEqProofs [c1, he, hty2]; exact ⟨rfl, rfl⟩) ?_ | refine Wp.regA (by simp -implicitDefEqProofs [c1, he, hty2]; exact ⟨rfl, rfl⟩) (by rfl) ?_))
          (apply endK_r; (focus (simp -implicitDefEqProofs [Tryz.f112, hof]; try rfl)); (focus (intro g; simp -implicitDefEqProofs [Tryz.f112, hof])); exact ⟨_, rfl⟩)
      | false =>
        have hto : RM.tyOk k t = decide (t.k = 0 ∧ t.as.length = 0) := by simp only [RM.typed, decide_eq_false_iff_not] at hty2; simp only [RM.tyOk, if_neg hty2]
        cases hz : decide (t.k = 0 ∧ t.as.length = 0) with
        | false =>
          have hof : (RM.mk k 0 t l).ok = false := by rw [hok, hto, hz]; simp
          simp at hz
          have hz' : (decide (t.k = 0) && decide (t.as = [])) = false := by simpa using hz
          (repeat (first | refine Wp.seq ?_ | refine Wp.block ?_ | refine Wp.skip ?_ | refine Wp.exit ?_ | refine Wp.ret ?_ | refine thenK_n ?_ | refine thenK_r ?_ | refine thenK_e ?_ | refine blockK_n ?_ | refine blockK_r ?_ | refine blockK_e ?_ | refine blockK_o (by decide) ?_ | (refine Wp.condT ?_ ?_; focus (simp -implicitDefEqProofs [c2, hty2, hz'] <;> fail)) | (refine Wp.condF ?_ ?_; focus (simp -implicitDefEqProofs [c2, hty2, hz'] <;> fail)) | refine Wp.reg (by simp -implicitDefEqProofs [c2, hty2, hz']; exact ⟨rfl, rfl⟩) ?_ | refine Wp.regA (by simp -implicitDefEqProofs [c2, hty2, hz']; exact ⟨rfl, rfl⟩) (by rfl) ?_))
          (apply endK_r; (focus (simp -implicitDefEqProofs [Tryz.f112, hof]; try rfl)); (focus (intro g; simp -implicitDefEqProofs [Tryz.f112, hof])); exact ⟨_, rfl⟩)
        | true =>
          rw [hz] at hto
          simp at hz
          have hz' : (decide (t.k = 0) && decide (t.as = [])) = true := by simpa using hz
          (repeat (first | refine Wp.seq ?_ | refine Wp.block ?_ | refine Wp.skip ?_ | refine Wp.exit ?_ | refine Wp.ret ?_ | refine thenK_n ?_ | refine thenK_r ?_ | refine thenK_e ?_ | refine blockK_n ?_ | refine blockK_r ?_ | refine blockK_e ?_ | refine blockK_o (by decide) ?_ | (refine Wp.condT ?_ ?_; focus (simp -implicitDefEqProofs [c2, hty2, hz'] <;> fail)) | (refine Wp.condF ?_ ?_; focus (simp -implicitDefEqProofs [c2, hty2, hz'] <;> fail)) | refine Wp.reg (by simp -implicitDefEqProofs [c2, hty2, hz']; exact ⟨rfl, rfl⟩) ?_ | refine Wp.regA (by simp -implicitDefEqProofs [c2, hty2, hz']; exact ⟨rfl, rfl⟩) (by rfl) ?_)); refine ⟨by simp, ⟨_, by simp -implicitDefEqProofs; rfl⟩, hto, rfl⟩
    rintro w c junk tk r σ ⟨htk, rfl⟩ hr hσ
    rw [htk, Bool.true_and] at hok
    simp -implicitDefEqProofs [] at hr hσ
    subst hr hσ
    (repeat (first | refine Wp.seq ?_ | refine Wp.block ?_ | refine Wp.skip ?_ | refine Wp.exit ?_ | refine Wp.ret ?_ | refine thenK_n ?_ | refine thenK_r ?_ | refine thenK_e ?_ | refine blockK_n ?_ | refine blockK_r ?_ | refine blockK_e ?_ | refine blockK_o (by decide) ?_ | (refine Wp.condT ?_ ?_; focus (simp -implicitDefEqProofs <;> fail)) | (refine Wp.condF ?_ ?_; focus (simp -implicitDefEqProofs <;> fail)) | refine Wp.reg (by simp -implicitDefEqProofs; exact ⟨rfl, rfl⟩) ?_ | refine Wp.regA (by simp -implicitDefEqProofs; exact ⟨rfl, rfl⟩) (by rfl) ?_))
    refine Wp.loopF [2, 3, 8, 10, 11, 12, 61, 62, 63, 64, 65, 66, 67, 68, 69, 70, 71, 72, 73, 74, 75] [] (fun n w c tk => ∃ done rest, l = done ++ rest ∧ n = rest.length ∧ w 61 = .int .i64 done.length ∧ w 8 = .int .i64 (1 + (done.map RM.count).sum : Nat) ∧ done.all RM.ok = true) (l.length) ?_ ?_ ?_ ?_
    · rfl
    · rfl
    · exact ⟨[], l, by simp, rfl, rfl, rfl, rfl⟩
    rintro n w c junk tk r σ ⟨done, rest, hl, rfl, h61, h8, hall⟩ hr hσ
    simp -implicitDefEqProofs [h61, h8] at hr hσ
    subst hr hσ
    cases rest with
    | nil =>
      simp at hl
      subst hl
      rw [hall] at hok
      (repeat (first | refine Wp.seq ?_ | refine Wp.block ?_ | refine Wp.skip ?_ | refine Wp.exit ?_ | refine Wp.ret ?_ | refine thenK_n ?_ | refine thenK_r ?_ | refine thenK_e ?_ | refine blockK_n ?_ | refine blockK_r ?_ | refine blockK_e ?_ | refine blockK_o (by decide) ?_ | (refine Wp.condT ?_ ?_; focus (simp -implicitDefEqProofs <;> fail)) | (refine Wp.condF ?_ ?_; focus (simp -implicitDefEqProofs <;> fail)) | refine Wp.reg (by simp -implicitDefEqProofs; exact ⟨rfl, rfl⟩) ?_ | refine Wp.regA (by simp -implicitDefEqProofs; exact ⟨rfl, rfl⟩) (by rfl) ?_))
      (apply endK_r; (focus (simp -implicitDefEqProofs [Tryz.f112, hok, hcnt]; try rfl)); (focus (intro g; simp -implicitDefEqProofs [Tryz.f112, hok, hcnt])); exact ⟨_, rfl⟩)
    | cons a rest =>
      have ha : el l done.length = some a := by simp [hl]
      have hlt : done.length < l.length := by simp [hl]
      have hi := ihc a (by simp [hl])
      have hw : IntKind.i64.wrap ((done.length : Int) + 1) = done.length + 1 := IntWalk.i64_in _ (by omega)
      cases hoka : a.ok with
      | false =>
        have hof : (RM.mk k 0 t l).ok = false := by rw [hok, hl]; simp [hoka]
        (repeat (first | refine Wp.seq ?_ | refine Wp.block ?_ | refine Wp.skip ?_ | refine Wp.exit ?_ | refine Wp.ret ?_ | refine thenK_n ?_ | refine thenK_r ?_ | refine thenK_e ?_ | refine blockK_n ?_ | refine blockK_r ?_ | refine blockK_e ?_ | refine blockK_o (by decide) ?_ | (refine Wp.condT ?_ ?_; focus (simp -implicitDefEqProofs [ha, hlt, hi, hw, hoka] <;> fail)) | (refine Wp.condF ?_ ?_; focus (simp -implicitDefEqProofs [ha, hlt, hi, hw, hoka] <;> fail)) | refine Wp.reg (by simp -implicitDefEqProofs [ha, hlt, hi, hw, hoka]; exact ⟨rfl, rfl⟩) ?_ | refine Wp.regA (by simp -implicitDefEqProofs [ha, hlt, hi, hw, hoka]; exact ⟨rfl, rfl⟩) (by rfl) ?_))
        (apply endK_r; (focus (simp -implicitDefEqProofs [Tryz.f112, hof]; try rfl)); (focus (intro g; simp -implicitDefEqProofs [Tryz.f112, hof])); exact ⟨_, rfl⟩)
      | true =>
        have hs : (List.map RM.count l).sum = (done.map RM.count).sum + a.count + (rest.map RM.count).sum := by rw [hl]; simp; omega
        have hw8 : IntKind.i64.wrap ((1 : Int) + (done.map RM.count).sum + a.count) = 1 + (done.map RM.count).sum + a.count := IntWalk.i64_in _ (by omega)
        (repeat (first | refine Wp.seq ?_ | refine Wp.block ?_ | refine Wp.skip ?_ | refine Wp.exit ?_ | refine Wp.ret ?_ | refine thenK_n ?_ | refine thenK_r ?_ | refine thenK_e ?_ | refine blockK_n ?_ | refine blockK_r ?_ | refine blockK_e ?_ | refine blockK_o (by decide) ?_ | (refine Wp.condT ?_ ?_; focus (simp -implicitDefEqProofs [ha, hlt, hi, hw, hoka, hw8] <;> fail)) | (refine Wp.condF ?_ ?_; focus (simp -implicitDefEqProofs [ha, hlt, hi, hw, hoka, hw8] <;> fail)) | refine Wp.reg (by simp -implicitDefEqProofs [ha, hlt, hi, hw, hoka, hw8]; exact ⟨rfl, rfl⟩) ?_ | refine Wp.regA (by simp -implicitDefEqProofs [ha, hlt, hi, hw, hoka, hw8]; exact ⟨rfl, rfl⟩) (by rfl) ?_))
        refine ⟨by simp, ⟨_, by simp -implicitDefEqProofs; rfl⟩, rest.length, by simp, done ++ [a], rest, by simp [hl], rfl, by simp, by simp; omega, by simp [hall, hoka]⟩
  · have ht2 : RM.tyOk 1 t = decide (t.k = 0 ∧ t.as.length = 0) := by simp [RM.tyOk]
    have har : RM.arity 1 = 0 := rfl
    have htp : RM.typed 1 = false := rfl
    have hl0 : l = [] := by simp [RM.arity] at h1; exact h1
    subst hl0
    cases hz : decide (t.k = 0 ∧ t.as.length = 0) with
    | false =>
      rw [ht2, hz] at hok
      simp at hz
      have hz' : (decide (t.k = 0) && decide (t.as = [])) = false := by simpa using hz
      (repeat (first | refine Wp.seq ?_ | refine Wp.block ?_ | refine Wp.skip ?_ | refine Wp.exit ?_ | refine Wp.ret ?_ | refine thenK_n ?_ | refine thenK_r ?_ | refine thenK_e ?_ | refine blockK_n ?_ | refine blockK_r ?_ | refine blockK_e ?_ | refine blockK_o (by decide) ?_ | (refine Wp.condT ?_ ?_; focus (simp -implicitDefEqProofs [arity_c, hkn, har, h2, hi0, typed1_c, htp, c2, hz'] <;> fail)) | (refine Wp.condF ?_ ?_; focus (simp -implicitDefEqProofs [arity_c, hkn, har, h2, hi0, typed1_c, htp, c2, hz'] <;> fail)) | refine Wp.reg (by simp -implicitDefEqProofs [arity_c, hkn, har, h2, hi0, typed1_c, htp, c2, hz']; exact ⟨rfl, rfl⟩) ?_ | refine Wp.regA (by simp -implicitDefEqProofs [arity_c, hkn, har, h2, hi0, typed1_c, htp, c2, hz']; exact ⟨rfl, rfl⟩) (by rfl) ?_))
      (apply endK_r; (focus (simp -implicitDefEqProofs [Tryz.f112, hok]; try rfl)); (focus (intro g; simp -implicitDefEqProofs [Tryz.f112, hok])); exact ⟨_, rfl⟩)
    | true =>
      rw [ht2, hz] at hok
      simp at hz
      have hz' : (decide (t.k = 0) && decide (t.as = [])) = true := by simpa using hz
      (repeat (first | refine Wp.seq ?_ | refine Wp.block ?_ | refine Wp.skip ?_ | refine Wp.exit ?_ | refine Wp.ret ?_ | refine thenK_n ?_ | refine thenK_r ?_ | refine thenK_e ?_ | refine blockK_n ?_ | refine blockK_r ?_ | refine blockK_e ?_ | refine blockK_o (by decide) ?_ | (refine Wp.condT ?_ ?_; focus (simp -implicitDefEqProofs [arity_c, hkn, har, h2, hi0, typed1_c, htp, c2, hz'] <;> fail)) | (refine Wp.condF ?_ ?_; focus (simp -implicitDefEqProofs [arity_c, hkn, har, h2, hi0, typed1_c, htp, c2, hz'] <;> fail)) | refine Wp.reg (by simp -implicitDefEqProofs [arity_c, hkn, har, h2, hi0, typed1_c, htp, c2, hz']; exact ⟨rfl, rfl⟩) ?_ | refine Wp.regA (by simp -implicitDefEqProofs [arity_c, hkn, har, h2, hi0, typed1_c, htp, c2, hz']; exact ⟨rfl, rfl⟩) (by rfl) ?_))
      refine Wp.loopF [2, 3, 8, 10, 11, 12, 61, 62, 63, 64, 65, 66, 67, 68, 69, 70, 71, 72, 73, 74, 75] [] (fun n w c tk => w 61 = .int .i64 0 ∧ w 8 = .int .i64 1) (0) ?_ ?_ ?_ ?_
      · rfl
      · rfl
      · exact ⟨rfl, rfl⟩
      rintro n w c junk tk r σ ⟨h61, h8⟩ hr hσ
      simp -implicitDefEqProofs [h61, h8] at hr hσ
      subst hr hσ
      (repeat (first | refine Wp.seq ?_ | refine Wp.block ?_ | refine Wp.skip ?_ | refine Wp.exit ?_ | refine Wp.ret ?_ | refine thenK_n ?_ | refine thenK_r ?_ | refine thenK_e ?_ | refine blockK_n ?_ | refine blockK_r ?_ | refine blockK_e ?_ | refine blockK_o (by decide) ?_ | (refine Wp.condT ?_ ?_; focus (simp -implicitDefEqProofs <;> fail)) | (refine Wp.condF ?_ ?_; focus (simp -implicitDefEqProofs <;> fail)) | refine Wp.reg (by simp -implicitDefEqProofs; exact ⟨rfl, rfl⟩) ?_ | refine Wp.regA (by simp -implicitDefEqProofs; exact ⟨rfl, rfl⟩) (by rfl) ?_))
      (apply endK_r; (focus (simp -implicitDefEqProofs [Tryz.f112, hok, hcnt]; try rfl)); (focus (intro g; simp -implicitDefEqProofs [Tryz.f112, hok, hcnt])); exact ⟨_, rfl⟩)
theorem termNodes_c {k i m : Int} {us : List RT} {ts : List RM} (ht : (RM.mk k i (.mk m us) ts).nodes ≤ 1000000000) (g : Nat) (S : St) (o1 o2 : Own) : callT (X.at g) (den X E) S 112 [.agg [.int .i64 k, .int .i64 i, .int .i64 m, .sl (List.map RT.cells us) o1, .sl (List.map RM.cells ts) o2]] = some (.tup [.int .i64 (if (RM.mk k i (.mk m us) ts).ok then (RM.mk k i (.mk m us) ts).count else 0), .bool (RM.mk k i (.mk m us) ts).ok], S) := by
  simpa using call_up (cf := X.at g) (fn := Tryz.f112) (args' := [.agg [.int .i64 k, .int .i64 i, .int .i64 m, .sl (List.map RT.cells us) o1, .sl (List.map RM.cells ts) o2]]) (by kernel_rfl) (by simp) (by simp; try rfl) (termNodes (.mk k i (.mk m us) ts) ht) S

theorem checkTerm (t : RM) (ht : t.nodes ≤ 1000000000) : den X E 87 [t.enc] [] = some (.tup [.int .i64 (if t.err = 0 then t.count else 0), .int .i64 t.err], []) := by
  have hc := termNodes_c (E := E) (k := t.k) (i := t.i) (m := t.ty.k) (us := t.ty.as) (ts := t.as) (by simpa using ht)
  simp at hc
  cases hok : t.ok with
  | false =>
    have he : t.err = 2 := by simp [RM.err, hok]
    refine den_w0 (fn := Tryz.f87) (by rfl) (by rfl) (by kernel_rfl) rfl (by rfl) ?_
    simp -implicitDefEqProofs
    (repeat (first | refine Wp.seq ?_ | refine Wp.block ?_ | refine Wp.skip ?_ | refine Wp.exit ?_ | refine Wp.ret ?_ | refine thenK_n ?_ | refine thenK_r ?_ | refine thenK_e ?_ | refine blockK_n ?_ | refine blockK_r ?_ | refine blockK_e ?_ | refine blockK_o (by decide) ?_ | (refine Wp.condT ?_ ?_; focus (simp -implicitDefEqProofs [hc, hok] <;> fail)) | (refine Wp.condF ?_ ?_; focus (simp -implicitDefEqProofs [hc, hok] <;> fail)) | refine Wp.reg (by simp -implicitDefEqProofs [hc, hok]; exact ⟨rfl, rfl⟩) ?_ | refine Wp.regA (by simp -implicitDefEqProofs [hc, hok]; exact ⟨rfl, rfl⟩) (by rfl) ?_))
    (apply endK_r; (focus (simp -implicitDefEqProofs [Tryz.f87, he]; try rfl)); (focus (intro g; simp -implicitDefEqProofs [Tryz.f87, he])); exact ⟨_, rfl⟩)
  | true =>
    by_cases hn : t.count ≤ 4096
    · have he : t.err = 0 := by simp [RM.err, hok, hn]
      have hn' : ¬ (4096 : Int) < t.count := by omega
      refine den_w0 (fn := Tryz.f87) (by rfl) (by rfl) (by kernel_rfl) rfl (by rfl) ?_
      simp -implicitDefEqProofs
      (repeat (first | refine Wp.seq ?_ | refine Wp.block ?_ | refine Wp.skip ?_ | refine Wp.exit ?_ | refine Wp.ret ?_ | refine thenK_n ?_ | refine thenK_r ?_ | refine thenK_e ?_ | refine blockK_n ?_ | refine blockK_r ?_ | refine blockK_e ?_ | refine blockK_o (by decide) ?_ | (refine Wp.condT ?_ ?_; focus (simp -implicitDefEqProofs [hc, hok, hn'] <;> fail)) | (refine Wp.condF ?_ ?_; focus (simp -implicitDefEqProofs [hc, hok, hn'] <;> fail)) | refine Wp.reg (by simp -implicitDefEqProofs [hc, hok, hn']; exact ⟨rfl, rfl⟩) ?_ | refine Wp.regA (by simp -implicitDefEqProofs [hc, hok, hn']; exact ⟨rfl, rfl⟩) (by rfl) ?_))
      (apply endK_r; (focus (simp -implicitDefEqProofs [Tryz.f87, he]; try rfl)); (focus (intro g; simp -implicitDefEqProofs [Tryz.f87, he])); exact ⟨_, rfl⟩)
    · have he : t.err = 4 := by simp [RM.err, hok, hn]
      have hn' : (4096 : Int) < t.count := by omega
      refine den_w0 (fn := Tryz.f87) (by rfl) (by rfl) (by kernel_rfl) rfl (by rfl) ?_
      simp -implicitDefEqProofs
      (repeat (first | refine Wp.seq ?_ | refine Wp.block ?_ | refine Wp.skip ?_ | refine Wp.exit ?_ | refine Wp.ret ?_ | refine thenK_n ?_ | refine thenK_r ?_ | refine thenK_e ?_ | refine blockK_n ?_ | refine blockK_r ?_ | refine blockK_e ?_ | refine blockK_o (by decide) ?_ | (refine Wp.condT ?_ ?_; focus (simp -implicitDefEqProofs [hc, hok, hn'] <;> fail)) | (refine Wp.condF ?_ ?_; focus (simp -implicitDefEqProofs [hc, hok, hn'] <;> fail)) | refine Wp.reg (by simp -implicitDefEqProofs [hc, hok, hn']; exact ⟨rfl, rfl⟩) ?_ | refine Wp.regA (by simp -implicitDefEqProofs [hc, hok, hn']; exact ⟨rfl, rfl⟩) (by rfl) ?_))
      (apply endK_r; (focus (simp -implicitDefEqProofs [Tryz.f87, he]; try rfl)); (focus (intro g; simp -implicitDefEqProofs [Tryz.f87, he])); exact ⟨_, rfl⟩)
theorem checkTerm_c {k i m : Int} {us : List RT} {ts : List RM} (ht : (RM.mk k i (.mk m us) ts).nodes ≤ 1000000000) (g : Nat) (S : St) (o1 o2 : Own) : callT (X.at g) (den X E) S 87 [.agg [.int .i64 k, .int .i64 i, .int .i64 m, .sl (List.map RT.cells us) o1, .sl (List.map RM.cells ts) o2]] = some (.tup [.int .i64 (if (RM.mk k i (.mk m us) ts).err = 0 then (RM.mk k i (.mk m us) ts).count else 0), .int .i64 (RM.mk k i (.mk m us) ts).err], S) := by
  simpa using call_up (cf := X.at g) (fn := Tryz.f87) (args' := [.agg [.int .i64 k, .int .i64 i, .int .i64 m, .sl (List.map RT.cells us) o1, .sl (List.map RM.cells ts) o2]]) (by kernel_rfl) (by simp) (by simp; try rfl) (checkTerm (.mk k i (.mk m us) ts) ht) S
theorem termsCheck (t : RM) (ht : t.nodes ≤ 1000000000) : den X E 44 [t.enc] [] = some (.int .i64 t.err, []) := by
  have hc := checkTerm_c (E := E) (k := t.k) (i := t.i) (m := t.ty.k) (us := t.ty.as) (ts := t.as) (by simpa using ht)
  simp at hc
  refine den_w0 (fn := Tryz.f44) (by rfl) (by rfl) (by kernel_rfl) rfl (by rfl) ?_
  simp -implicitDefEqProofs
  (repeat (first | refine Wp.seq ?_ | refine Wp.block ?_ | refine Wp.skip ?_ | refine Wp.exit ?_ | refine Wp.ret ?_ | refine thenK_n ?_ | refine thenK_r ?_ | refine thenK_e ?_ | refine blockK_n ?_ | refine blockK_r ?_ | refine blockK_e ?_ | refine blockK_o (by decide) ?_ | (refine Wp.condT ?_ ?_; focus (simp -implicitDefEqProofs [hc] <;> fail)) | (refine Wp.condF ?_ ?_; focus (simp -implicitDefEqProofs [hc] <;> fail)) | refine Wp.reg (by simp -implicitDefEqProofs [hc]; exact ⟨rfl, rfl⟩) ?_ | refine Wp.regA (by simp -implicitDefEqProofs [hc]; exact ⟨rfl, rfl⟩) (by rfl) ?_))
  (apply endK_r; (focus (simp -implicitDefEqProofs [Tryz.f44]; try rfl)); (focus (intro g; simp -implicitDefEqProofs [Tryz.f44])); exact ⟨_, rfl⟩)
theorem termsCheck_c {k i m : Int} {us : List RT} {ts : List RM} (ht : (RM.mk k i (.mk m us) ts).nodes ≤ 1000000000) (g : Nat) (S : St) (o1 o2 : Own) : callT (X.at g) (den X E) S 44 [.agg [.int .i64 k, .int .i64 i, .int .i64 m, .sl (List.map RT.cells us) o1, .sl (List.map RM.cells ts) o2]] = some (.int .i64 (RM.mk k i (.mk m us) ts).err, S) := by
  simpa using call_up (cf := X.at g) (fn := Tryz.f44) (args' := [.agg [.int .i64 k, .int .i64 i, .int .i64 m, .sl (List.map RT.cells us) o1, .sl (List.map RM.cells ts) o2]]) (by kernel_rfl) (by simp) (by simp; try rfl) (termsCheck (.mk k i (.mk m us) ts) ht) S
end M
end Go.Proofs.YthclcchnodjjpaaGreatDoor
/- scope.Nodes, Far, Lift, Build, Var, Unit, Nat. -/
set_option linter.unusedVariables false
set_option linter.unusedSimpArgs false
set_option maxRecDepth 10000
set_option maxHeartbeats 4000000
namespace Go.Proofs.YthclcchnodjjpaaGreatDoor
namespace M
attribute [local irreducible] Wp thenK blockK endK
variable {E : Oracle}
open T (Ty Tm)
theorem scNodes (t : RM) (ht : t.nodes ≤ 1000000000) : den X E 128 [t.enc] [] = some (.int .i64 t.count, []) := by
  induction t using RM.ind with | h k i t l ih =>
  have ihc : ∀ a ∈ l, ∀ (g : Nat) (S : St) (o1 o2 : Own), callT (X.at g) (den X E) S 128 [.agg [.int .i64 a.k, .int .i64 a.i, .int .i64 a.ty.k, .sl (List.map RT.cells a.ty.as) o1, .sl (List.map RM.cells a.as) o2]] = some (.int .i64 a.count, S) := by
    intros
    simpa using call_up (cf := X.at _) (fn := Tryz.f128) (args' := [_]) (by kernel_rfl) (by simp) (by simp; try rfl) (ih _ (by assumption) (by have := RM.nodes_mem (k := k) (i := i) (t := t) (l := l) (by assumption); omega)) _
  have hlen := RM.nodes_len k i t l
  have hnod := RM.count_mk k i t l
  have hcl := RM.count_le (.mk k i t l)
  refine den_w0 (fn := Tryz.f128) (by rfl) (by rfl) (by kernel_rfl) rfl (by rfl) ?_
  simp -implicitDefEqProofs
  (repeat (first | refine Wp.seq ?_ | refine Wp.block ?_ | refine Wp.skip ?_ | refine Wp.exit ?_ | refine Wp.ret ?_ | refine thenK_n ?_ | refine thenK_r ?_ | refine thenK_e ?_ | refine blockK_n ?_ | refine blockK_r ?_ | refine blockK_e ?_ | refine blockK_o (by decide) ?_ | (refine Wp.condT ?_ ?_; focus (simp -implicitDefEqProofs <;> fail)) | (refine Wp.condF ?_ ?_; focus (simp -implicitDefEqProofs <;> fail)) | refine Wp.reg (by simp -implicitDefEqProofs; exact ⟨rfl, rfl⟩) ?_ | refine Wp.regA (by simp -implicitDefEqProofs; exact ⟨rfl, rfl⟩) (by rfl) ?_))
  refine Wp.loopF [3, 5, 9, 10, 11, 12, 13, 14, 15, 16, 17] [] (fun n w c tk => ∃ done rest, l = done ++ rest ∧ n = rest.length ∧ w 9 = .int .i64 done.length ∧ w 3 = .int .i64 (1 + (List.map RM.count done).sum : Nat)) (l.length) ?_ ?_ ?_ ?_
  · rfl
  · rfl
  · exact ⟨[], l, by simp, rfl, rfl, rfl⟩
  rintro n w c junk tk r σ ⟨done, rest, hl, rfl, hix, hacc⟩ hr hσ
  simp -implicitDefEqProofs [hix, hacc] at hr hσ
  subst hr hσ
  rcases rest with _ | ⟨a, rest⟩
  rotate_left
  · have ha : el l done.length = some a := by simp [hl]
    have hlt : done.length < l.length := by simp [hl]
    have hmem : a ∈ l := by simp [hl]
    have hw : IntKind.i64.wrap ((done.length : Int) + 1) = done.length + 1 := IntWalk.i64_in _ (by omega)
    have hs : (List.map RM.count l).sum = (List.map RM.count done).sum + RM.count a + (List.map RM.count rest).sum := by rw [hl]; simp; omega
    have hws : IntKind.i64.wrap ((1 : Int) + (List.map RM.count done).sum + RM.count a) = 1 + (List.map RM.count done).sum + RM.count a := IntWalk.i64_in _ (by omega)
    (repeat (first | refine Wp.seq ?_ | refine Wp.block ?_ | refine Wp.skip ?_ | refine Wp.exit ?_ | refine Wp.ret ?_ | refine thenK_n ?_ | refine thenK_r ?_ | refine thenK_e ?_ | refine blockK_n ?_ | refine blockK_r ?_ | refine blockK_e ?_ | refine blockK_o (by decide) ?_ | (refine Wp.condT ?_ ?_; focus (simp -implicitDefEqProofs [ha, hlt, hw, hws, ihc a hmem] <;> fail)) | (refine Wp.condF ?_ ?_; focus (simp -implicitDefEqProofs [ha, hlt, hw, hws, ihc a hmem] <;> fail)) | refine Wp.reg (by simp -implicitDefEqProofs [ha, hlt, hw, hws, ihc a hmem]; exact ⟨rfl, rfl⟩) ?_ | refine Wp.regA (by simp -implicitDefEqProofs [ha, hlt, hw, hws, ihc a hmem]; exact ⟨rfl, rfl⟩) (by rfl) ?_))
    refine ⟨by simp, ⟨_, by simp -implicitDefEqProofs; rfl⟩, rest.length, by simp, done ++ [a], rest, by simp [hl], rfl, by simp, by simp; try omega⟩
  simp at hl
  subst hl
  (repeat (first | refine Wp.seq ?_ | refine Wp.block ?_ | refine Wp.skip ?_ | refine Wp.exit ?_ | refine Wp.ret ?_ | refine thenK_n ?_ | refine thenK_r ?_ | refine thenK_e ?_ | refine blockK_n ?_ | refine blockK_r ?_ | refine blockK_e ?_ | refine blockK_o (by decide) ?_ | (refine Wp.condT ?_ ?_; focus (simp -implicitDefEqProofs <;> fail)) | (refine Wp.condF ?_ ?_; focus (simp -implicitDefEqProofs <;> fail)) | refine Wp.reg (by simp -implicitDefEqProofs; exact ⟨rfl, rfl⟩) ?_ | refine Wp.regA (by simp -implicitDefEqProofs; exact ⟨rfl, rfl⟩) (by rfl) ?_))
  (apply endK_r; (focus (simp -implicitDefEqProofs [Tryz.f128, hnod]; try rfl)); (focus (intro g; simp -implicitDefEqProofs [Tryz.f128, hnod])); exact ⟨_, rfl⟩)
theorem scNodes_c {k i m : Int} {us : List RT} {ts : List RM} (ht : (RM.mk k i (.mk m us) ts).nodes ≤ 1000000000) (g : Nat) (S : St) (o1 o2 : Own) : callT (X.at g) (den X E) S 128 [.agg [.int .i64 k, .int .i64 i, .int .i64 m, .sl (List.map RT.cells us) o1, .sl (List.map RM.cells ts) o2]] = some (.int .i64 (RM.mk k i (.mk m us) ts).count, S) := by
  simpa using call_up (cf := X.at g) (fn := Tryz.f128) (args' := [.agg [.int .i64 k, .int .i64 i, .int .i64 m, .sl (List.map RT.cells us) o1, .sl (List.map RM.cells ts) o2]]) (by kernel_rfl) (by simp) (by simp; try rfl) (scNodes (.mk k i (.mk m us) ts) ht) S

theorem far (t : RM) (ht : t.nodes ≤ 1000000000) : den X E 45 [t.enc] [] = some (.bool (!t.near 268435456), []) := by
  induction t using RM.ind with | h k i t l ih =>
  have ihc : ∀ a ∈ l, ∀ (g : Nat) (S : St) (o1 o2 : Own), callT (X.at g) (den X E) S 45 [.agg [.int .i64 a.k, .int .i64 a.i, .int .i64 a.ty.k, .sl (List.map RT.cells a.ty.as) o1, .sl (List.map RM.cells a.as) o2]] = some (.bool (!a.near 268435456), S) := by
    intros
    simpa using call_up (cf := X.at _) (fn := Tryz.f45) (args' := [_]) (by kernel_rfl) (by simp) (by simp; try rfl) (ih _ (by assumption) (by have := RM.nodes_mem (k := k) (i := i) (t := t) (l := l) (by assumption); omega)) _
  have hlen := RM.nodes_len k i t l
  have hmk := RM.near_mk 268435456 k i t l
  refine den_w0 (fn := Tryz.f45) (by rfl) (by rfl) (by kernel_rfl) rfl (by rfl) ?_
  simp -implicitDefEqProofs
  by_cases hi : 268435456 < i
  · have hi' : ¬ i ≤ 268435456 := by omega
    simp [hi'] at hmk
    (repeat (first | refine Wp.seq ?_ | refine Wp.block ?_ | refine Wp.skip ?_ | refine Wp.exit ?_ | refine Wp.ret ?_ | refine thenK_n ?_ | refine thenK_r ?_ | refine thenK_e ?_ | refine blockK_n ?_ | refine blockK_r ?_ | refine blockK_e ?_ | refine blockK_o (by decide) ?_ | (refine Wp.condT ?_ ?_; focus (simp -implicitDefEqProofs [hi] <;> fail)) | (refine Wp.condF ?_ ?_; focus (simp -implicitDefEqProofs [hi] <;> fail)) | refine Wp.reg (by simp -implicitDefEqProofs [hi]; exact ⟨rfl, rfl⟩) ?_ | refine Wp.regA (by simp -implicitDefEqProofs [hi]; exact ⟨rfl, rfl⟩) (by rfl) ?_))
    (apply endK_r; (focus (simp -implicitDefEqProofs [Tryz.f45, hmk]; try rfl)); (focus (intro g; simp -implicitDefEqProofs [Tryz.f45, hmk])); exact ⟨_, rfl⟩)
  have hi' : i ≤ 268435456 := by omega
  simp only [hi', decide_true, Bool.true_and] at hmk
  (repeat (first | refine Wp.seq ?_ | refine Wp.block ?_ | refine Wp.skip ?_ | refine Wp.exit ?_ | refine Wp.ret ?_ | refine thenK_n ?_ | refine thenK_r ?_ | refine thenK_e ?_ | refine blockK_n ?_ | refine blockK_r ?_ | refine blockK_e ?_ | refine blockK_o (by decide) ?_ | (refine Wp.condT ?_ ?_; focus (simp -implicitDefEqProofs [hi] <;> fail)) | (refine Wp.condF ?_ ?_; focus (simp -implicitDefEqProofs [hi] <;> fail)) | refine Wp.reg (by simp -implicitDefEqProofs [hi]; exact ⟨rfl, rfl⟩) ?_ | refine Wp.regA (by simp -implicitDefEqProofs [hi]; exact ⟨rfl, rfl⟩) (by rfl) ?_))
  refine Wp.loopF [2, 4, 11, 12, 13, 14, 15, 16, 17] [] (fun n w c tk => ∃ done rest, l = done ++ rest ∧ n = rest.length ∧ w 11 = .int .i64 done.length ∧ done.all (RM.near 268435456) = true) (l.length) ?_ ?_ ?_ ?_
  · rfl
  · rfl
  · exact ⟨[], l, by simp, rfl, rfl, rfl⟩
  rintro n w c junk tk r σ ⟨done, rest, hl, rfl, hix, hall⟩ hr hσ
  simp -implicitDefEqProofs [hix] at hr hσ
  subst hr hσ
  rcases rest with _ | ⟨a, rest⟩
  rotate_left
  · have ha : el l done.length = some a := by simp [hl]
    have hlt : done.length < l.length := by simp [hl]
    have hmem : a ∈ l := by simp [hl]
    have hw : IntKind.i64.wrap ((done.length : Int) + 1) = done.length + 1 := IntWalk.i64_in _ (by omega)
    cases hP : (RM.near 268435456) a with
    | false =>
      have hall : l.all (RM.near 268435456) = false := by rw [hl]; simp [hP]
      (repeat (first | refine Wp.seq ?_ | refine Wp.block ?_ | refine Wp.skip ?_ | refine Wp.exit ?_ | refine Wp.ret ?_ | refine thenK_n ?_ | refine thenK_r ?_ | refine thenK_e ?_ | refine blockK_n ?_ | refine blockK_r ?_ | refine blockK_e ?_ | refine blockK_o (by decide) ?_ | (refine Wp.condT ?_ ?_; focus (simp -implicitDefEqProofs [ha, hlt, hw, hP, ihc a hmem] <;> fail)) | (refine Wp.condF ?_ ?_; focus (simp -implicitDefEqProofs [ha, hlt, hw, hP, ihc a hmem] <;> fail)) | refine Wp.reg (by simp -implicitDefEqProofs [ha, hlt, hw, hP, ihc a hmem]; exact ⟨rfl, rfl⟩) ?_ | refine Wp.regA (by simp -implicitDefEqProofs [ha, hlt, hw, hP, ihc a hmem]; exact ⟨rfl, rfl⟩) (by rfl) ?_))
      (apply endK_r; (focus (simp -implicitDefEqProofs [Tryz.f45, hmk, hall]; try rfl)); (focus (intro g; simp -implicitDefEqProofs [Tryz.f45, hmk, hall])); exact ⟨_, rfl⟩)
    | true =>
      (repeat (first | refine Wp.seq ?_ | refine Wp.block ?_ | refine Wp.skip ?_ | refine Wp.exit ?_ | refine Wp.ret ?_ | refine thenK_n ?_ | refine thenK_r ?_ | refine thenK_e ?_ | refine blockK_n ?_ | refine blockK_r ?_ | refine blockK_e ?_ | refine blockK_o (by decide) ?_ | (refine Wp.condT ?_ ?_; focus (simp -implicitDefEqProofs [ha, hlt, hw, hP, ihc a hmem] <;> fail)) | (refine Wp.condF ?_ ?_; focus (simp -implicitDefEqProofs [ha, hlt, hw, hP, ihc a hmem] <;> fail)) | refine Wp.reg (by simp -implicitDefEqProofs [ha, hlt, hw, hP, ihc a hmem]; exact ⟨rfl, rfl⟩) ?_ | refine Wp.regA (by simp -implicitDefEqProofs [ha, hlt, hw, hP, ihc a hmem]; exact ⟨rfl, rfl⟩) (by rfl) ?_))
      refine ⟨by simp, ⟨_, by simp -implicitDefEqProofs; rfl⟩, rest.length, by simp, done ++ [a], rest, by simp [hl], rfl, by simp, by simp [hall, hP]⟩
  simp at hl
  subst hl
  (repeat (first | refine Wp.seq ?_ | refine Wp.block ?_ | refine Wp.skip ?_ | refine Wp.exit ?_ | refine Wp.ret ?_ | refine thenK_n ?_ | refine thenK_r ?_ | refine thenK_e ?_ | refine blockK_n ?_ | refine blockK_r ?_ | refine blockK_e ?_ | refine blockK_o (by decide) ?_ | (refine Wp.condT ?_ ?_; focus (simp -implicitDefEqProofs <;> fail)) | (refine Wp.condF ?_ ?_; focus (simp -implicitDefEqProofs <;> fail)) | refine Wp.reg (by simp -implicitDefEqProofs; exact ⟨rfl, rfl⟩) ?_ | refine Wp.regA (by simp -implicitDefEqProofs; exact ⟨rfl, rfl⟩) (by rfl) ?_))
  (apply endK_r; (focus (simp -implicitDefEqProofs [Tryz.f45, hmk, hall]; try rfl)); (focus (intro g; simp -implicitDefEqProofs [Tryz.f45, hmk, hall])); exact ⟨_, rfl⟩)
theorem far_c {k i m : Int} {us : List RT} {ts : List RM} (ht : (RM.mk k i (.mk m us) ts).nodes ≤ 1000000000) (g : Nat) (S : St) (o1 o2 : Own) : callT (X.at g) (den X E) S 45 [.agg [.int .i64 k, .int .i64 i, .int .i64 m, .sl (List.map RT.cells us) o1, .sl (List.map RM.cells ts) o2]] = some (.bool (!(RM.mk k i (.mk m us) ts).near 268435456), S) := by
  simpa using call_up (cf := X.at g) (fn := Tryz.f45) (args' := [.agg [.int .i64 k, .int .i64 i, .int .i64 m, .sl (List.map RT.cells us) o1, .sl (List.map RM.cells ts) o2]]) (by kernel_rfl) (by simp) (by simp; try rfl) (far (.mk k i (.mk m us) ts) ht) S

theorem scLift (q : Int) (hn : 0 ≤ q ∧ q ≤ 1000000000) (t : RM) : ∀ z : Int, t.nodes ≤ 1000000000 → t.idx 1000000000 = true → 0 ≤ z → z + t.nodes ≤ 10000000000 →
    den X E 91 [t.enc, .int .i64 z, .int .i64 q] [] = some ((t.lift q z).enc, []) := by
  induction t using RM.ind with | h k i t l ih =>
  intro z ht hi hc0 hc
  have hlen := RM.nodes_len k i t l
  have hmk := RM.lift_mk q k i z t l
  by_cases hn0 : q = 0
  · subst hn0
    rw [RM.lift_zero]
    refine den_w0 (fn := Tryz.f91) (by rfl) (by rfl) (by kernel_rfl) rfl (by rfl) ?_
    simp -implicitDefEqProofs
    (repeat (first | refine Wp.seq ?_ | refine Wp.block ?_ | refine Wp.skip ?_ | refine Wp.exit ?_ | refine Wp.ret ?_ | refine thenK_n ?_ | refine thenK_r ?_ | refine thenK_e ?_ | refine blockK_n ?_ | refine blockK_r ?_ | refine blockK_e ?_ | refine blockK_o (by decide) ?_ | (refine Wp.condT ?_ ?_; focus (simp -implicitDefEqProofs <;> fail)) | (refine Wp.condF ?_ ?_; focus (simp -implicitDefEqProofs <;> fail)) | refine Wp.reg (by simp -implicitDefEqProofs; exact ⟨rfl, rfl⟩) ?_ | refine Wp.regA (by simp -implicitDefEqProofs; exact ⟨rfl, rfl⟩) (by rfl) ?_))
    (apply endK_r; (focus (simp -implicitDefEqProofs [Tryz.f91]; try rfl)); (focus (intro g; simp -implicitDefEqProofs [Tryz.f91])); exact ⟨_, rfl⟩)
  rw [RM.idx_mk] at hi
  simp only [Bool.and_eq_true, decide_eq_true_eq, List.all_eq_true] at hi
  by_cases hk1 : k = 1
  · subst hk1
    simp only [if_true] at hmk
    by_cases hci : z ≤ i
    · have hw : IntKind.i64.wrap (i + q) = i + q := IntWalk.i64_in _ (by omega)
      rw [if_pos hci] at hmk
      refine den_w0 (fn := Tryz.f91) (by rfl) (by rfl) (by kernel_rfl) rfl (by rfl) ?_
      simp -implicitDefEqProofs
      (repeat (first | refine Wp.seq ?_ | refine Wp.block ?_ | refine Wp.skip ?_ | refine Wp.exit ?_ | refine Wp.ret ?_ | refine thenK_n ?_ | refine thenK_r ?_ | refine thenK_e ?_ | refine blockK_n ?_ | refine blockK_r ?_ | refine blockK_e ?_ | refine blockK_o (by decide) ?_ | (refine Wp.condT ?_ ?_; focus (simp -implicitDefEqProofs [hn0, hci, hw] <;> fail)) | (refine Wp.condF ?_ ?_; focus (simp -implicitDefEqProofs [hn0, hci, hw] <;> fail)) | refine Wp.reg (by simp -implicitDefEqProofs [hn0, hci, hw]; exact ⟨rfl, rfl⟩) ?_ | refine Wp.regA (by simp -implicitDefEqProofs [hn0, hci, hw]; exact ⟨rfl, rfl⟩) (by rfl) ?_))
      (apply endK_r; (focus (simp -implicitDefEqProofs [Tryz.f91, hmk]; try rfl)); (focus (intro g; simp -implicitDefEqProofs [Tryz.f91, hmk])); exact ⟨_, rfl⟩)
    · rw [if_neg hci] at hmk
      refine den_w0 (fn := Tryz.f91) (by rfl) (by rfl) (by kernel_rfl) rfl (by rfl) ?_
      simp -implicitDefEqProofs
      (repeat (first | refine Wp.seq ?_ | refine Wp.block ?_ | refine Wp.skip ?_ | refine Wp.exit ?_ | refine Wp.ret ?_ | refine thenK_n ?_ | refine thenK_r ?_ | refine thenK_e ?_ | refine blockK_n ?_ | refine blockK_r ?_ | refine blockK_e ?_ | refine blockK_o (by decide) ?_ | (refine Wp.condT ?_ ?_; focus (simp -implicitDefEqProofs [hn0, hci] <;> fail)) | (refine Wp.condF ?_ ?_; focus (simp -implicitDefEqProofs [hn0, hci] <;> fail)) | refine Wp.reg (by simp -implicitDefEqProofs [hn0, hci]; exact ⟨rfl, rfl⟩) ?_ | refine Wp.regA (by simp -implicitDefEqProofs [hn0, hci]; exact ⟨rfl, rfl⟩) (by rfl) ?_))
      (apply endK_r; (focus (simp -implicitDefEqProofs [Tryz.f91, hmk]; try rfl)); (focus (intro g; simp -implicitDefEqProofs [Tryz.f91, hmk])); exact ⟨_, rfl⟩)
  simp only [if_neg hk1] at hmk
  have ihc : ∀ a ∈ l, ∀ (g : Nat) (S : St) (o1 o2 : Own), callT (X.at g) (den X E) S 91 [.agg [.int .i64 a.k, .int .i64 a.i, .int .i64 a.ty.k, .sl (List.map RT.cells a.ty.as) o1, .sl (List.map RM.cells a.as) o2], .int .i64 (if k = 2 then z + 1 else z), .int .i64 q] = some (.agg [.int .i64 (RM.lift q a (if k = 2 then z + 1 else z)).k, .int .i64 (RM.lift q a (if k = 2 then z + 1 else z)).i, .int .i64 (RM.lift q a (if k = 2 then z + 1 else z)).ty.k, .sl (List.map RT.cells (RM.lift q a (if k = 2 then z + 1 else z)).ty.as) .dead, .sl (List.map RM.cells (RM.lift q a (if k = 2 then z + 1 else z)).as) .dead], S) := by
    intros
    simpa using call_up (cf := X.at _) (fn := Tryz.f91) (args' := [_, _, _]) (by kernel_rfl) (by simp) (by simp; try rfl) (ih _ (by assumption) _ (by have := RM.nodes_mem (k := k) (i := i) (t := t) (l := l) (by assumption); omega) (hi.2 _ (by assumption)) (by split <;> omega) (by have := RM.nodes_mem (k := k) (i := i) (t := t) (l := l) (by assumption); split <;> omega)) _
  have hw1 : IntKind.i64.wrap (z + 1) = z + 1 := IntWalk.i64_in _ (by omega)
  refine den_w0 (fn := Tryz.f91) (by rfl) (by rfl) (by kernel_rfl) rfl (by rfl) ?_
  simp -implicitDefEqProofs
  by_cases hk2 : k = 2
  · simp only [hk2, if_true] at hmk ihc
    (repeat (first | refine Wp.seq ?_ | refine Wp.block ?_ | refine Wp.skip ?_ | refine Wp.exit ?_ | refine Wp.ret ?_ | refine thenK_n ?_ | refine thenK_r ?_ | refine thenK_e ?_ | refine blockK_n ?_ | refine blockK_r ?_ | refine blockK_e ?_ | refine blockK_o (by decide) ?_ | (refine Wp.condT ?_ ?_; focus (simp -implicitDefEqProofs [hn0, hk1, hk2, hw1] <;> fail)) | (refine Wp.condF ?_ ?_; focus (simp -implicitDefEqProofs [hn0, hk1, hk2, hw1] <;> fail)) | refine Wp.reg (by simp -implicitDefEqProofs [hn0, hk1, hk2, hw1]; exact ⟨rfl, rfl⟩) ?_ | refine Wp.regA (by simp -implicitDefEqProofs [hn0, hk1, hk2, hw1]; exact ⟨rfl, rfl⟩) (by rfl) ?_))
    refine Wp.loopF [9, 36, 37, 38, 39, 40, 41, 42, 43, 44, 45, 46, 47, 48, 49] [2] (fun n w c tk => ∃ done rest o, l = done ++ rest ∧ n = rest.length ∧ w 36 = .int .i64 done.length ∧ c 2 = [.int .i64 k, .int .i64 i, .int .i64 t.k, .sl (t.as.map RT.cells) .dead, .sl (List.map (RM.cells ∘ fun a => RM.lift q a (z + 1)) done) o] ∧ Can tk (List.map (RM.cells ∘ fun a => RM.lift q a (z + 1)) done) o) (l.length) ?_ ?_ ?_ ?_
    · rfl
    · rfl
    · exact ⟨[], l, .full, by simp, rfl, rfl, by simp [hk2], trivial⟩
    rintro n w c junk tk r σ ⟨done, rest, o, hl, rfl, hix, hacc, hcan⟩ hr hσ
    simp -implicitDefEqProofs [hix, hacc] at hr hσ
    subst hr hσ
    rcases rest with _ | ⟨a, rest⟩
    rotate_left
    · have ha : el l done.length = some a := by simp [hl]
      have hlt : done.length < l.length := by simp [hl]
      have hmem : a ∈ l := by simp [hl]
      have hw : IntKind.i64.wrap ((done.length : Int) + 1) = done.length + 1 := IntWalk.i64_in _ (by omega)
      obtain ⟨o', tk', happ, hcan'⟩ := can_app hcan 5 (by decide) (by simp) (by simp; omega)
      (repeat (first | refine Wp.seq ?_ | refine Wp.block ?_ | refine Wp.skip ?_ | refine Wp.exit ?_ | refine Wp.ret ?_ | refine thenK_n ?_ | refine thenK_r ?_ | refine thenK_e ?_ | refine blockK_n ?_ | refine blockK_r ?_ | refine blockK_e ?_ | refine blockK_o (by decide) ?_ | (refine Wp.condT ?_ ?_; focus (simp -implicitDefEqProofs [ha, hlt, hw, happ, ihc a hmem] <;> fail)) | (refine Wp.condF ?_ ?_; focus (simp -implicitDefEqProofs [ha, hlt, hw, happ, ihc a hmem] <;> fail)) | refine Wp.reg (by simp -implicitDefEqProofs [ha, hlt, hw, happ, ihc a hmem]; exact ⟨rfl, rfl⟩) ?_ | refine Wp.regA (by simp -implicitDefEqProofs [ha, hlt, hw, happ, ihc a hmem]; exact ⟨rfl, rfl⟩) (by rfl) ?_))
      refine ⟨by simp, ⟨_, by simp -implicitDefEqProofs; rfl⟩, rest.length, by simp, done ++ [a], rest, o', by simp [hl], rfl, by simp, by simp, by simpa using hcan' _⟩
    simp at hl
    subst hl
    (repeat (first | refine Wp.seq ?_ | refine Wp.block ?_ | refine Wp.skip ?_ | refine Wp.exit ?_ | refine Wp.ret ?_ | refine thenK_n ?_ | refine thenK_r ?_ | refine thenK_e ?_ | refine blockK_n ?_ | refine blockK_r ?_ | refine blockK_e ?_ | refine blockK_o (by decide) ?_ | (refine Wp.condT ?_ ?_; focus (simp -implicitDefEqProofs <;> fail)) | (refine Wp.condF ?_ ?_; focus (simp -implicitDefEqProofs <;> fail)) | refine Wp.reg (by simp -implicitDefEqProofs; exact ⟨rfl, rfl⟩) ?_ | refine Wp.regA (by simp -implicitDefEqProofs; exact ⟨rfl, rfl⟩) (by rfl) ?_))
    (apply endK_r; (focus (simp -implicitDefEqProofs [Tryz.f91, hmk, hk2]; try rfl)); (focus (intro g; simp -implicitDefEqProofs [Tryz.f91, hmk, hk2])); exact ⟨_, rfl⟩)
  · simp only [hk2, if_false] at hmk ihc
    (repeat (first | refine Wp.seq ?_ | refine Wp.block ?_ | refine Wp.skip ?_ | refine Wp.exit ?_ | refine Wp.ret ?_ | refine thenK_n ?_ | refine thenK_r ?_ | refine thenK_e ?_ | refine blockK_n ?_ | refine blockK_r ?_ | refine blockK_e ?_ | refine blockK_o (by decide) ?_ | (refine Wp.condT ?_ ?_; focus (simp -implicitDefEqProofs [hn0, hk1, hk2] <;> fail)) | (refine Wp.condF ?_ ?_; focus (simp -implicitDefEqProofs [hn0, hk1, hk2] <;> fail)) | refine Wp.reg (by simp -implicitDefEqProofs [hn0, hk1, hk2]; exact ⟨rfl, rfl⟩) ?_ | refine Wp.regA (by simp -implicitDefEqProofs [hn0, hk1, hk2]; exact ⟨rfl, rfl⟩) (by rfl) ?_))
    refine Wp.loopF [9, 36, 37, 38, 39, 40, 41, 42, 43, 44, 45, 46, 47, 48, 49] [2] (fun n w c tk => ∃ done rest o, l = done ++ rest ∧ n = rest.length ∧ w 36 = .int .i64 done.length ∧ c 2 = [.int .i64 k, .int .i64 i, .int .i64 t.k, .sl (t.as.map RT.cells) .dead, .sl (List.map (RM.cells ∘ fun a => RM.lift q a z) done) o] ∧ Can tk (List.map (RM.cells ∘ fun a => RM.lift q a z) done) o) (l.length) ?_ ?_ ?_ ?_
    · rfl
    · rfl
    · exact ⟨[], l, .full, by simp, rfl, rfl, rfl, trivial⟩
    rintro n w c junk tk r σ ⟨done, rest, o, hl, rfl, hix, hacc, hcan⟩ hr hσ
    simp -implicitDefEqProofs [hix, hacc] at hr hσ
    subst hr hσ
    rcases rest with _ | ⟨a, rest⟩
    rotate_left
    · have ha : el l done.length = some a := by simp [hl]
      have hlt : done.length < l.length := by simp [hl]
      have hmem : a ∈ l := by simp [hl]
      have hw : IntKind.i64.wrap ((done.length : Int) + 1) = done.length + 1 := IntWalk.i64_in _ (by omega)
      obtain ⟨o', tk', happ, hcan'⟩ := can_app hcan 5 (by decide) (by simp) (by simp; omega)
      (repeat (first | refine Wp.seq ?_ | refine Wp.block ?_ | refine Wp.skip ?_ | refine Wp.exit ?_ | refine Wp.ret ?_ | refine thenK_n ?_ | refine thenK_r ?_ | refine thenK_e ?_ | refine blockK_n ?_ | refine blockK_r ?_ | refine blockK_e ?_ | refine blockK_o (by decide) ?_ | (refine Wp.condT ?_ ?_; focus (simp -implicitDefEqProofs [ha, hlt, hw, happ, ihc a hmem] <;> fail)) | (refine Wp.condF ?_ ?_; focus (simp -implicitDefEqProofs [ha, hlt, hw, happ, ihc a hmem] <;> fail)) | refine Wp.reg (by simp -implicitDefEqProofs [ha, hlt, hw, happ, ihc a hmem]; exact ⟨rfl, rfl⟩) ?_ | refine Wp.regA (by simp -implicitDefEqProofs [ha, hlt, hw, happ, ihc a hmem]; exact ⟨rfl, rfl⟩) (by rfl) ?_))
      refine ⟨by simp, ⟨_, by simp -implicitDefEqProofs; rfl⟩, rest.length, by simp, done ++ [a], rest, o', by simp [hl], rfl, by simp, by simp, by simpa using hcan' _⟩
    simp at hl
    subst hl
    (repeat (first | refine Wp.seq ?_ | refine Wp.block ?_ | refine Wp.skip ?_ | refine Wp.exit ?_ | refine Wp.ret ?_ | refine thenK_n ?_ | refine thenK_r ?_ | refine thenK_e ?_ | refine blockK_n ?_ | refine blockK_r ?_ | refine blockK_e ?_ | refine blockK_o (by decide) ?_ | (refine Wp.condT ?_ ?_; focus (simp -implicitDefEqProofs <;> fail)) | (refine Wp.condF ?_ ?_; focus (simp -implicitDefEqProofs <;> fail)) | refine Wp.reg (by simp -implicitDefEqProofs; exact ⟨rfl, rfl⟩) ?_ | refine Wp.regA (by simp -implicitDefEqProofs; exact ⟨rfl, rfl⟩) (by rfl) ?_))
    (apply endK_r; (focus (simp -implicitDefEqProofs [Tryz.f91, hmk]; try rfl)); (focus (intro g; simp -implicitDefEqProofs [Tryz.f91, hmk])); exact ⟨_, rfl⟩)
theorem scLift_c {n c k i m : Int} {us : List RT} {ts : List RM} (hn : 0 ≤ n ∧ n ≤ 1000000000) (ht : (RM.mk k i (.mk m us) ts).nodes ≤ 1000000000) (hi : (RM.mk k i (.mk m us) ts).idx 1000000000 = true) (hc : 0 ≤ c ∧ c ≤ 1000000000) (g : Nat) (S : St) (o1 o2 : Own) : callT (X.at g) (den X E) S 91 [.agg [.int .i64 k, .int .i64 i, .int .i64 m, .sl (List.map RT.cells us) o1, .sl (List.map RM.cells ts) o2], .int .i64 c, .int .i64 n] = some (.agg [.int .i64 ((RM.mk k i (.mk m us) ts).lift n c).k, .int .i64 ((RM.mk k i (.mk m us) ts).lift n c).i, .int .i64 ((RM.mk k i (.mk m us) ts).lift n c).ty.k, .sl (List.map RT.cells ((RM.mk k i (.mk m us) ts).lift n c).ty.as) .dead, .sl (List.map RM.cells ((RM.mk k i (.mk m us) ts).lift n c).as) .dead], S) := by
  simpa using call_up (cf := X.at g) (fn := Tryz.f91) (args' := [.agg [.int .i64 k, .int .i64 i, .int .i64 m, .sl (List.map RT.cells us) o1, .sl (List.map RM.cells ts) o2], .int .i64 c, .int .i64 n]) (by kernel_rfl) (by simp) (by simp; try rfl) (scLift n hn (.mk k i (.mk m us) ts) c ht hi hc.1 (by omega)) S

theorem scBuild (k : Int) (s : RT) (l : List RM) (ht : (RM.mk k 0 s l).nodes ≤ 1000000000) : den X E 113 [.int .i64 k, s.enc, .sl (l.map RM.cells) .dead] [] =
    some (if (RM.mk k 0 s l).count ≤ 4096 then .tup [(RM.mk k 0 s l).enc, .int .i64 0] else .tup [(RM.mk 0 0 (.mk 0 []) []).enc, .int .i64 4], []) := by
  have c1 := scNodes_c (E := E) (k := k) (i := 0) (m := s.k) (us := s.as) (ts := l) (by simpa using ht)
  simp at c1
  by_cases h : (RM.mk k 0 s l).count ≤ 4096
  · have h' : ¬ (4096 : Int) < (RM.mk k 0 s l).count := by omega
    rw [if_pos h]
    refine den_w0 (fn := Tryz.f113) (by rfl) (by rfl) (by kernel_rfl) rfl (by rfl) ?_
    simp -implicitDefEqProofs
    (repeat (first | refine Wp.seq ?_ | refine Wp.block ?_ | refine Wp.skip ?_ | refine Wp.exit ?_ | refine Wp.ret ?_ | refine thenK_n ?_ | refine thenK_r ?_ | refine thenK_e ?_ | refine blockK_n ?_ | refine blockK_r ?_ | refine blockK_e ?_ | refine blockK_o (by decide) ?_ | (refine Wp.condT ?_ ?_; focus (simp -implicitDefEqProofs [c1, h'] <;> fail)) | (refine Wp.condF ?_ ?_; focus (simp -implicitDefEqProofs [c1, h'] <;> fail)) | refine Wp.reg (by simp -implicitDefEqProofs [c1, h']; exact ⟨rfl, rfl⟩) ?_ | refine Wp.regA (by simp -implicitDefEqProofs [c1, h']; exact ⟨rfl, rfl⟩) (by rfl) ?_))
    (apply endK_r; (focus (simp -implicitDefEqProofs [Tryz.f113]; try rfl)); (focus (intro g; simp -implicitDefEqProofs [Tryz.f113])); exact ⟨_, rfl⟩)
  · have h' : (4096 : Int) < (RM.mk k 0 s l).count := by omega
    rw [if_neg h]
    refine den_w0 (fn := Tryz.f113) (by rfl) (by rfl) (by kernel_rfl) rfl (by rfl) ?_
    simp -implicitDefEqProofs
    (repeat (first | refine Wp.seq ?_ | refine Wp.block ?_ | refine Wp.skip ?_ | refine Wp.exit ?_ | refine Wp.ret ?_ | refine thenK_n ?_ | refine thenK_r ?_ | refine thenK_e ?_ | refine blockK_n ?_ | refine blockK_r ?_ | refine blockK_e ?_ | refine blockK_o (by decide) ?_ | (refine Wp.condT ?_ ?_; focus (simp -implicitDefEqProofs [c1, h'] <;> fail)) | (refine Wp.condF ?_ ?_; focus (simp -implicitDefEqProofs [c1, h'] <;> fail)) | refine Wp.reg (by simp -implicitDefEqProofs [c1, h']; exact ⟨rfl, rfl⟩) ?_ | refine Wp.regA (by simp -implicitDefEqProofs [c1, h']; exact ⟨rfl, rfl⟩) (by rfl) ?_))
    (apply endK_r; (focus (simp -implicitDefEqProofs [Tryz.f113]; try rfl)); (focus (intro g; simp -implicitDefEqProofs [Tryz.f113])); exact ⟨_, rfl⟩)
theorem scVar (i : Int) : den X E 94 [.int .i64 i] [] = some ((RM.mk 1 i (.mk 0 []) []).enc, []) := by
  refine den_w0 (fn := Tryz.f94) (by rfl) (by rfl) (by kernel_rfl) rfl (by rfl) ?_
  simp -implicitDefEqProofs
  (repeat (first | refine Wp.seq ?_ | refine Wp.block ?_ | refine Wp.skip ?_ | refine Wp.exit ?_ | refine Wp.ret ?_ | refine thenK_n ?_ | refine thenK_r ?_ | refine thenK_e ?_ | refine blockK_n ?_ | refine blockK_r ?_ | refine blockK_e ?_ | refine blockK_o (by decide) ?_ | (refine Wp.condT ?_ ?_; focus (simp -implicitDefEqProofs <;> fail)) | (refine Wp.condF ?_ ?_; focus (simp -implicitDefEqProofs <;> fail)) | refine Wp.reg (by simp -implicitDefEqProofs; exact ⟨rfl, rfl⟩) ?_ | refine Wp.regA (by simp -implicitDefEqProofs; exact ⟨rfl, rfl⟩) (by rfl) ?_))
  (apply endK_r; (focus (simp -implicitDefEqProofs [Tryz.f94]; try rfl)); (focus (intro g; simp -implicitDefEqProofs [Tryz.f94])); exact ⟨_, rfl⟩)
theorem scVar_c {i : Int} (g : Nat) (S : St)  : callT (X.at g) (den X E) S 94 [.int .i64 i] = some (.agg [.int .i64 1, .int .i64 i, .int .i64 0, .sl (List.map RT.cells []) .dead, .sl (List.map RM.cells []) .dead], S) := by
  simpa using call_up (cf := X.at g) (fn := Tryz.f94) (args' := [.int .i64 i]) (by kernel_rfl) (by simp) (by simp; try rfl) (scVar i) S
theorem scUnit : den X E 110 [] [] = some ((RM.mk 13 0 (.mk 0 []) []).enc, []) := by
  refine den_w0 (fn := Tryz.f110) (by rfl) (by rfl) (by kernel_rfl) rfl (by rfl) ?_
  simp -implicitDefEqProofs
  (repeat (first | refine Wp.seq ?_ | refine Wp.block ?_ | refine Wp.skip ?_ | refine Wp.exit ?_ | refine Wp.ret ?_ | refine thenK_n ?_ | refine thenK_r ?_ | refine thenK_e ?_ | refine blockK_n ?_ | refine blockK_r ?_ | refine blockK_e ?_ | refine blockK_o (by decide) ?_ | (refine Wp.condT ?_ ?_; focus (simp -implicitDefEqProofs <;> fail)) | (refine Wp.condF ?_ ?_; focus (simp -implicitDefEqProofs <;> fail)) | refine Wp.reg (by simp -implicitDefEqProofs; exact ⟨rfl, rfl⟩) ?_ | refine Wp.regA (by simp -implicitDefEqProofs; exact ⟨rfl, rfl⟩) (by rfl) ?_))
  (apply endK_r; (focus (simp -implicitDefEqProofs [Tryz.f110]; try rfl)); (focus (intro g; simp -implicitDefEqProofs [Tryz.f110])); exact ⟨_, rfl⟩)
theorem scUnit_c  (g : Nat) (S : St)  : callT (X.at g) (den X E) S 110 [] = some (.agg [.int .i64 13, .int .i64 0, .int .i64 0, .sl (List.map RT.cells []) .dead, .sl (List.map RM.cells []) .dead], S) := by
  simpa using call_up (cf := X.at g) (fn := Tryz.f110) (args' := []) (by kernel_rfl) (by simp) (by simp; try rfl) (scUnit) S
theorem scNat : den X E 88 [] [] = some ((RT.mk 1 []).enc, []) := by
  refine den_w0 (fn := Tryz.f88) (by rfl) (by rfl) (by kernel_rfl) rfl (by rfl) ?_
  simp -implicitDefEqProofs
  (repeat (first | refine Wp.seq ?_ | refine Wp.block ?_ | refine Wp.skip ?_ | refine Wp.exit ?_ | refine Wp.ret ?_ | refine thenK_n ?_ | refine thenK_r ?_ | refine thenK_e ?_ | refine blockK_n ?_ | refine blockK_r ?_ | refine blockK_e ?_ | refine blockK_o (by decide) ?_ | (refine Wp.condT ?_ ?_; focus (simp -implicitDefEqProofs <;> fail)) | (refine Wp.condF ?_ ?_; focus (simp -implicitDefEqProofs <;> fail)) | refine Wp.reg (by simp -implicitDefEqProofs; exact ⟨rfl, rfl⟩) ?_ | refine Wp.regA (by simp -implicitDefEqProofs; exact ⟨rfl, rfl⟩) (by rfl) ?_))
  (apply endK_r; (focus (simp -implicitDefEqProofs [Tryz.f88]; try rfl)); (focus (intro g; simp -implicitDefEqProofs [Tryz.f88])); exact ⟨_, rfl⟩)
theorem scNat_c  (g : Nat) (S : St)  : callT (X.at g) (den X E) S 88 [] = some (.agg [.int .i64 1, .sl (List.map RT.cells []) .dead], S) := by
  simpa using call_up (cf := X.at g) (fn := Tryz.f88) (args' := []) (by kernel_rfl) (by simp) (by simp; try rfl) (scNat) S
end M
end Go.Proofs.YthclcchnodjjpaaGreatDoor
/- Closed terms of the program and of the references: by running. -/
set_option linter.unusedVariables false
set_option linter.unusedSimpArgs false
set_option maxRecDepth 10000
set_option maxHeartbeats 4000000
namespace Go.Proofs.YthclcchnodjjpaaGreatDoor
namespace M
attribute [local irreducible] Wp thenK blockK endK
variable {E : Oracle}
open T (Ty Tm)
theorem v_plus : den X E 123 [] [] = some (T.plus.raw.enc, []) := den_of (n := 12) (by kernel_rfl)
theorem v_sub : den X E 124 [] [] = some (T.sub.raw.enc, []) := den_of (n := 12) (by kernel_rfl)
theorem v_greater : den X E 109 [] [] = some (T.greater.raw.enc, []) := den_of (n := 12) (by kernel_rfl)
theorem v_pred : den X E 135 [] [] = some (T.pred.raw.enc, []) := den_of (n := 12) (by kernel_rfl)
theorem r_plus : den X E 55 [] [] = some (T.plus.raw.enc, []) := den_of (n := 30) (by kernel_rfl)
theorem r_sub : den X E 56 [] [] = some (T.sub.raw.enc, []) := den_of (n := 30) (by kernel_rfl)
end M
end Go.Proofs.YthclcchnodjjpaaGreatDoor
