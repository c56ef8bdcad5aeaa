/- Small types (ref01.Nat, List, Unit, Two, Fun), decks (make.Mod, Few, New, Next), make.Type. -/
import Derived.Test.YtgkdehfbeejlfaaTyA
set_option linter.unusedVariables false
set_option linter.unusedSimpArgs false
set_option maxRecDepth 10000
namespace Go.Proofs.Ytgkdehfbeejlfaa
namespace M
attribute [local irreducible] Wp thenK blockK endK
variable {E : Oracle}
open T (Ty Tm)
theorem nat1 : den X E 30 [] [] = some ((RT.mk 1 []).enc, []) := by
  refine den_w0 (fn := Try.f30) (by rfl) (by rfl) (by kernel_rfl) rfl (by rfl) ?_
  simp -implicitDefEqProofs
  (repeat (first | refine Wp.seq ?_ | refine Wp.block ?_ | refine Wp.skip ?_ | refine Wp.exit ?_ | refine Wp.ret ?_ | refine thenK_n ?_ | refine thenK_r ?_ | refine thenK_e ?_ | refine blockK_n ?_ | refine blockK_r ?_ | refine blockK_e ?_ | refine blockK_o (by decide) ?_ | (refine Wp.condT ?_ ?_; focus (simp -implicitDefEqProofs <;> fail)) | (refine Wp.condF ?_ ?_; focus (simp -implicitDefEqProofs <;> fail)) | refine Wp.reg (by simp -implicitDefEqProofs; exact ⟨rfl, rfl⟩) ?_ | refine Wp.regA (by simp -implicitDefEqProofs; exact ⟨rfl, rfl⟩) (by rfl) ?_))
  (apply endK_r; (focus (simp -implicitDefEqProofs [Try.f30]; try rfl)); (focus (intro g; simp -implicitDefEqProofs [Try.f30])); exact ⟨_, rfl⟩)
theorem nat1_c  (g : Nat) (S : St)  : callT (X.at g) (den X E) S 30 [] = some (.agg [.int .i64 1, .sl (List.map RT.cells []) .dead], S) := by
  simpa using call_up (cf := X.at g) (fn := Try.f30) (args' := []) (by kernel_rfl) (by simp) (by simp; try rfl) (nat1) S
theorem list1 : den X E 32 [] [] = some ((RT.mk 2 []).enc, []) := by
  refine den_w0 (fn := Try.f32) (by rfl) (by rfl) (by kernel_rfl) rfl (by rfl) ?_
  simp -implicitDefEqProofs
  (repeat (first | refine Wp.seq ?_ | refine Wp.block ?_ | refine Wp.skip ?_ | refine Wp.exit ?_ | refine Wp.ret ?_ | refine thenK_n ?_ | refine thenK_r ?_ | refine thenK_e ?_ | refine blockK_n ?_ | refine blockK_r ?_ | refine blockK_e ?_ | refine blockK_o (by decide) ?_ | (refine Wp.condT ?_ ?_; focus (simp -implicitDefEqProofs <;> fail)) | (refine Wp.condF ?_ ?_; focus (simp -implicitDefEqProofs <;> fail)) | refine Wp.reg (by simp -implicitDefEqProofs; exact ⟨rfl, rfl⟩) ?_ | refine Wp.regA (by simp -implicitDefEqProofs; exact ⟨rfl, rfl⟩) (by rfl) ?_))
  (apply endK_r; (focus (simp -implicitDefEqProofs [Try.f32]; try rfl)); (focus (intro g; simp -implicitDefEqProofs [Try.f32])); exact ⟨_, rfl⟩)
theorem list1_c  (g : Nat) (S : St)  : callT (X.at g) (den X E) S 32 [] = some (.agg [.int .i64 2, .sl (List.map RT.cells []) .dead], S) := by
  simpa using call_up (cf := X.at g) (fn := Try.f32) (args' := []) (by kernel_rfl) (by simp) (by simp; try rfl) (list1) S
theorem unit1 : den X E 33 [] [] = some ((RT.mk 5 []).enc, []) := by
  refine den_w0 (fn := Try.f33) (by rfl) (by rfl) (by kernel_rfl) rfl (by rfl) ?_
  simp -implicitDefEqProofs
  (repeat (first | refine Wp.seq ?_ | refine Wp.block ?_ | refine Wp.skip ?_ | refine Wp.exit ?_ | refine Wp.ret ?_ | refine thenK_n ?_ | refine thenK_r ?_ | refine thenK_e ?_ | refine blockK_n ?_ | refine blockK_r ?_ | refine blockK_e ?_ | refine blockK_o (by decide) ?_ | (refine Wp.condT ?_ ?_; focus (simp -implicitDefEqProofs <;> fail)) | (refine Wp.condF ?_ ?_; focus (simp -implicitDefEqProofs <;> fail)) | refine Wp.reg (by simp -implicitDefEqProofs; exact ⟨rfl, rfl⟩) ?_ | refine Wp.regA (by simp -implicitDefEqProofs; exact ⟨rfl, rfl⟩) (by rfl) ?_))
  (apply endK_r; (focus (simp -implicitDefEqProofs [Try.f33]; try rfl)); (focus (intro g; simp -implicitDefEqProofs [Try.f33])); exact ⟨_, rfl⟩)
theorem unit1_c  (g : Nat) (S : St)  : callT (X.at g) (den X E) S 33 [] = some (.agg [.int .i64 5, .sl (List.map RT.cells []) .dead], S) := by
  simpa using call_up (cf := X.at g) (fn := Try.f33) (args' := []) (by kernel_rfl) (by simp) (by simp; try rfl) (unit1) S
theorem fun1 (a b : RT) (ha : a.nodes ≤ 1000000000) (hb : b.nodes ≤ 1000000000) : den X E 29 [a.enc, b.enc] [] = some ((RT.mk 4 [a, b]).enc, []) := by
  have c1 := copy_c (E := E) (k := a.k) (ts := a.as) (by simpa using ha)
  have c2 := copy_c (E := E) (k := b.k) (ts := b.as) (by simpa using hb)
  refine den_w0 (fn := Try.f29) (by rfl) (by rfl) (by kernel_rfl) rfl (by rfl) ?_
  simp -implicitDefEqProofs
  (repeat (first | refine Wp.seq ?_ | refine Wp.block ?_ | refine Wp.skip ?_ | refine Wp.exit ?_ | refine Wp.ret ?_ | refine thenK_n ?_ | refine thenK_r ?_ | refine thenK_e ?_ | refine blockK_n ?_ | refine blockK_r ?_ | refine blockK_e ?_ | refine blockK_o (by decide) ?_ | (refine Wp.condT ?_ ?_; focus (simp -implicitDefEqProofs [c1, c2] <;> fail)) | (refine Wp.condF ?_ ?_; focus (simp -implicitDefEqProofs [c1, c2] <;> fail)) | refine Wp.reg (by simp -implicitDefEqProofs [c1, c2]; exact ⟨rfl, rfl⟩) ?_ | refine Wp.regA (by simp -implicitDefEqProofs [c1, c2]; exact ⟨rfl, rfl⟩) (by rfl) ?_))
  (apply endK_r; (focus (simp -implicitDefEqProofs [Try.f29]; try rfl)); (focus (intro g; simp -implicitDefEqProofs [Try.f29])); exact ⟨_, rfl⟩)
theorem fun1_c {k m : Int} {ts us : List RT} (ha : (RT.mk k ts).nodes ≤ 1000000000) (hb : (RT.mk m us).nodes ≤ 1000000000) (g : Nat) (S : St) (o1 o2 : Own) : callT (X.at g) (den X E) S 29 [.agg [.int .i64 k, .sl (List.map RT.cells ts) o1], .agg [.int .i64 m, .sl (List.map RT.cells us) o2]] = some (.agg [.int .i64 4, .sl (List.map RT.cells [.mk k ts, .mk m us]) .dead], S) := by
  simpa using call_up (cf := X.at g) (fn := Try.f29) (args' := [.agg [.int .i64 k, .sl (List.map RT.cells ts) o1], .agg [.int .i64 m, .sl (List.map RT.cells us) o2]]) (by kernel_rfl) (by simp) (by simp; try rfl) (fun1 (.mk k ts) (.mk m us) ha hb) S
theorem two1 (a b : RT) (ha : a.nodes ≤ 1000000000) (hb : b.nodes ≤ 1000000000) : den X E 34 [a.enc, b.enc] [] = some ((RT.mk 3 [a, b]).enc, []) := by
  have c1 := copy_c (E := E) (k := a.k) (ts := a.as) (by simpa using ha)
  have c2 := copy_c (E := E) (k := b.k) (ts := b.as) (by simpa using hb)
  refine den_w0 (fn := Try.f34) (by rfl) (by rfl) (by kernel_rfl) rfl (by rfl) ?_
  simp -implicitDefEqProofs
  (repeat (first | refine Wp.seq ?_ | refine Wp.block ?_ | refine Wp.skip ?_ | refine Wp.exit ?_ | refine Wp.ret ?_ | refine thenK_n ?_ | refine thenK_r ?_ | refine thenK_e ?_ | refine blockK_n ?_ | refine blockK_r ?_ | refine blockK_e ?_ | refine blockK_o (by decide) ?_ | (refine Wp.condT ?_ ?_; focus (simp -implicitDefEqProofs [c1, c2] <;> fail)) | (refine Wp.condF ?_ ?_; focus (simp -implicitDefEqProofs [c1, c2] <;> fail)) | refine Wp.reg (by simp -implicitDefEqProofs [c1, c2]; exact ⟨rfl, rfl⟩) ?_ | refine Wp.regA (by simp -implicitDefEqProofs [c1, c2]; exact ⟨rfl, rfl⟩) (by rfl) ?_))
  (apply endK_r; (focus (simp -implicitDefEqProofs [Try.f34]; try rfl)); (focus (intro g; simp -implicitDefEqProofs [Try.f34])); exact ⟨_, rfl⟩)
theorem two1_c {k m : Int} {ts us : List RT} (ha : (RT.mk k ts).nodes ≤ 1000000000) (hb : (RT.mk m us).nodes ≤ 1000000000) (g : Nat) (S : St) (o1 o2 : Own) : callT (X.at g) (den X E) S 34 [.agg [.int .i64 k, .sl (List.map RT.cells ts) o1], .agg [.int .i64 m, .sl (List.map RT.cells us) o2]] = some (.agg [.int .i64 3, .sl (List.map RT.cells [.mk k ts, .mk m us]) .dead], S) := by
  simpa using call_up (cf := X.at g) (fn := Try.f34) (args' := [.agg [.int .i64 k, .sl (List.map RT.cells ts) o1], .agg [.int .i64 m, .sl (List.map RT.cells us) o2]]) (by kernel_rfl) (by simp) (by simp; try rfl) (two1 (.mk k ts) (.mk m us) ha hb) S

theorem mod1 (n k : Int) (hk : 1 ≤ k) (hk2 : k ≤ 1000000) : den X E 46 [.int .i64 n, .int .i64 k] [] = some (.int .i64 (n % k), []) := by
  have hk0 : k ≠ 0 := by omega
  have hb1 : -k < n.tmod k := by
    have := Int.lt_tmod_of_pos n (show 0 < k by omega)
    omega
  have hb2 : n.tmod k < k := Int.tmod_lt_of_pos n (by omega)
  have hw : IntKind.i64.wrap (n.tmod k + k) = n.tmod k + k := IntWalk.i64_in _ (by omega)
  have hmod : (n.tmod k + k).tmod k = n % k := by
    rw [Int.tmod_eq_emod_of_nonneg (by omega), Int.add_emod_right]
    rw [Int.tmod_def, Int.sub_mul_emod_self_left]
  refine den_w0 (fn := Try.f46) (by rfl) (by rfl) (by kernel_rfl) rfl (by rfl) ?_
  simp -implicitDefEqProofs
  (repeat (first | refine Wp.seq ?_ | refine Wp.block ?_ | refine Wp.skip ?_ | refine Wp.exit ?_ | refine Wp.ret ?_ | refine thenK_n ?_ | refine thenK_r ?_ | refine thenK_e ?_ | refine blockK_n ?_ | refine blockK_r ?_ | refine blockK_e ?_ | refine blockK_o (by decide) ?_ | (refine Wp.condT ?_ ?_; focus (simp -implicitDefEqProofs [hk0, hw, hmod] <;> fail)) | (refine Wp.condF ?_ ?_; focus (simp -implicitDefEqProofs [hk0, hw, hmod] <;> fail)) | refine Wp.reg (by simp -implicitDefEqProofs [hk0, hw, hmod]; exact ⟨rfl, rfl⟩) ?_ | refine Wp.regA (by simp -implicitDefEqProofs [hk0, hw, hmod]; exact ⟨rfl, rfl⟩) (by rfl) ?_))
  (apply endK_r; (focus (simp -implicitDefEqProofs [Try.f46]; try rfl)); (focus (intro g; simp -implicitDefEqProofs [Try.f46])); exact ⟨_, rfl⟩)
theorem mod1_c (n k : Int) (hk : 1 ≤ k) (hk2 : k ≤ 1000000) (g : Nat) (S : St)  : callT (X.at g) (den X E) S 46 [.int .i64 n, .int .i64 k] = some (.int .i64 (n % k), S) := by
  simpa using call_up (cf := X.at g) (fn := Try.f46) (args' := [.int .i64 n, .int .i64 k]) (by kernel_rfl) (by simp) (by simp; try rfl) (mod1 n k hk hk2) S

theorem few1 (zs : List Int) : den X E 7 [.sl (zs.map ic) .dead] [] = some (.bool (decide (zs.length ≤ 500)), []) := by
  refine den_w0 (fn := Try.f7) (by rfl) (by rfl) (by kernel_rfl) rfl (by rfl) ?_
  simp -implicitDefEqProofs
  (repeat (first | refine Wp.seq ?_ | refine Wp.block ?_ | refine Wp.skip ?_ | refine Wp.exit ?_ | refine Wp.ret ?_ | refine thenK_n ?_ | refine thenK_r ?_ | refine thenK_e ?_ | refine blockK_n ?_ | refine blockK_r ?_ | refine blockK_e ?_ | refine blockK_o (by decide) ?_ | (refine Wp.condT ?_ ?_; focus (simp -implicitDefEqProofs <;> fail)) | (refine Wp.condF ?_ ?_; focus (simp -implicitDefEqProofs <;> fail)) | refine Wp.reg (by simp -implicitDefEqProofs; exact ⟨rfl, rfl⟩) ?_ | refine Wp.regA (by simp -implicitDefEqProofs; exact ⟨rfl, rfl⟩) (by rfl) ?_))
  (apply endK_r; (focus (simp -implicitDefEqProofs [Try.f7]; try rfl)); (focus (intro g; simp -implicitDefEqProofs [Try.f7]; omega)); exact ⟨_, rfl⟩)
theorem few1_c (zs : List Int) (g : Nat) (S : St) (o1 : Own) : callT (X.at g) (den X E) S 7 [.sl (zs.map ic) o1] = some (.bool (decide (zs.length ≤ 500)), S) := by
  simpa using call_up (cf := X.at g) (fn := Try.f7) (args' := [.sl (zs.map ic) o1]) (by kernel_rfl) (by simp) (by simp; try rfl) (few1 zs) S

/-- The next choice, and where the deck then stands. -/
def nextP (zs : List Int) (i : Nat) (n : Int) : Int × Nat := match el zs i with
  | some z => (z % n, i + 1)
  | none => (0, i)
theorem el_lt {α : Type} {l : List α} {i : Nat} {a : α} (h : el l i = some a) : i < l.length := (List.getElem?_eq_some_iff.1 h).1
theorem el_ge {α : Type} {l : List α} {i : Nat} (h : el l i = none) : l.length ≤ i := List.getElem?_eq_none_iff.1 h
theorem nextP_le {zs : List Int} {i : Nat} (n : Int) (h : i ≤ zs.length) : (nextP zs i n).2 ≤ zs.length := by
  unfold nextP
  cases he : el zs i with
  | none => exact h
  | some z => exact el_lt he
theorem nextP_range (zs : List Int) (i : Nat) {n : Int} (hn : 1 ≤ n) : 0 ≤ (nextP zs i n).1 ∧ (nextP zs i n).1 < n := by
  unfold nextP
  cases he : el zs i with
  | none => exact ⟨Int.le_refl 0, by simp only; omega⟩
  | some z => exact ⟨Int.emod_nonneg _ (by omega), Int.emod_lt_of_pos _ (by omega)⟩
def deck (zs : List Int) (i : Nat) : List AV := [.sl (zs.map ic) .dead, .int .i64 i]
@[simp] theorem deck_eq (zs : List Int) (i : Nat) : deck zs i = [.sl (zs.map ic) .dead, .int .i64 i] := rfl

theorem next (zs : List Int) (i : Nat) (n : Int) (hn : 1 ≤ n) (hn2 : n ≤ 1000000) (hi : i ≤ zs.length) (hz : zs.length ≤ 1000000) :
    den X E 31 [.loc 0 0, .int .i64 n] [deck zs i] = some (.int .i64 (nextP zs i n).1, [deck zs (nextP zs i n).2]) := by
  have hn1 : ¬ n < 1 := by omega
  have hw : IntKind.i64.wrap ((i : Int) + 1) = i + 1 := IntWalk.i64_in _ (by omega)
  have hc := fun z => mod1_c (E := E) z n hn hn2
  unfold nextP
  cases he : el zs i with
  | none =>
    have hge : zs.length ≤ i := el_ge he
    simp only [deck]
    refine den_w (fn := Try.f31) (σ1 := [[.sl (zs.map ic) .dead, .int .i64 i]]) (by rfl) (by rfl) (by kernel_rfl) rfl (by rfl) (by rfl) (by simp -implicitDefEqProofs) ?_
    simp -implicitDefEqProofs
    (repeat (first | refine Wp.seq ?_ | refine Wp.block ?_ | refine Wp.skip ?_ | refine Wp.exit ?_ | refine Wp.ret ?_ | refine thenK_n ?_ | refine thenK_r ?_ | refine thenK_e ?_ | refine blockK_n ?_ | refine blockK_r ?_ | refine blockK_e ?_ | refine blockK_o (by decide) ?_ | (refine Wp.condT ?_ ?_; focus (simp -implicitDefEqProofs [hn1, hge] <;> fail)) | (refine Wp.condF ?_ ?_; focus (simp -implicitDefEqProofs [hn1, hge] <;> fail)) | refine Wp.reg (by simp -implicitDefEqProofs [hn1, hge]; exact ⟨rfl, rfl⟩) ?_ | refine Wp.regA (by simp -implicitDefEqProofs [hn1, hge]; exact ⟨rfl, rfl⟩) (by rfl) ?_))
    (apply endK_r; (focus (simp -implicitDefEqProofs [Try.f31]; try rfl)); (focus (intro g; simp -implicitDefEqProofs [Try.f31])); exact ⟨_, rfl⟩)
  | some z =>
    have hlt : ¬ zs.length ≤ i := by have := el_lt he; omega
    simp only [deck]
    refine den_w (fn := Try.f31) (σ1 := [[.sl (zs.map ic) .dead, .int .i64 (i + 1 : Nat)]]) (by rfl) (by rfl) (by kernel_rfl) rfl (by rfl) (by rfl) (by simp -implicitDefEqProofs) ?_
    simp -implicitDefEqProofs
    (repeat (first | refine Wp.seq ?_ | refine Wp.block ?_ | refine Wp.skip ?_ | refine Wp.exit ?_ | refine Wp.ret ?_ | refine thenK_n ?_ | refine thenK_r ?_ | refine thenK_e ?_ | refine blockK_n ?_ | refine blockK_r ?_ | refine blockK_e ?_ | refine blockK_o (by decide) ?_ | (refine Wp.condT ?_ ?_; focus (simp -implicitDefEqProofs [hn1, hlt, he, hw, hc] <;> fail)) | (refine Wp.condF ?_ ?_; focus (simp -implicitDefEqProofs [hn1, hlt, he, hw, hc] <;> fail)) | refine Wp.reg (by simp -implicitDefEqProofs [hn1, hlt, he, hw, hc]; exact ⟨rfl, rfl⟩) ?_ | refine Wp.regA (by simp -implicitDefEqProofs [hn1, hlt, he, hw, hc]; exact ⟨rfl, rfl⟩) (by rfl) ?_))
    (apply endK_r; (focus (simp -implicitDefEqProofs [Try.f31]; try rfl)); (focus (intro g; simp -implicitDefEqProofs [Try.f31])); exact ⟨_, rfl⟩)
theorem next_c (zs : List Int) (i : Nat) (n : Int) (hn : 1 ≤ n) (hn2 : n ≤ 1000000) (hi : i ≤ zs.length) (hz : zs.length ≤ 1000000)  (g b : Nat) (S : St) (hS : sd S.σ b = some [.sl (zs.map ic) .dead, .int .i64 i]) : callT (X.at g) (den X E) S 31 [.loc b 0, .int .i64 n] = some (.int .i64 (nextP zs i n).1, { S with σ := S.σ.set b [.sl (zs.map ic) .dead, .int .i64 (nextP zs i n).2] }) := by
  simpa using call_upD (cf := X.at g) (fn := Try.f31) (args' := [.int .i64 n]) (by kernel_rfl) rfl (by rfl) (by rfl) (by simp) (by simp; try rfl) (by simp) (by simp) (next zs i n hn hn2 hi hz) S hS

theorem new1 (zs : List Int) : den X E 8 [.sl (zs.map ic) .dead] [] = some (.loc 0 0, [deck zs 0]) := by
  refine den_mk (fn := Try.f8) (by rfl) (by rfl) (by kernel_rfl) rfl (by rfl) ?_
  simp
  (repeat (first | refine Wp.seq ?_ | refine Wp.block ?_ | refine Wp.skip ?_ | refine Wp.exit ?_ | refine Wp.ret ?_ | refine thenK_n ?_ | refine thenK_r ?_ | refine thenK_e ?_ | refine blockK_n ?_ | refine blockK_r ?_ | refine blockK_e ?_ | refine blockK_o (by decide) ?_ | (refine Wp.condT ?_ ?_; focus (simp -implicitDefEqProofs <;> fail)) | (refine Wp.condF ?_ ?_; focus (simp -implicitDefEqProofs <;> fail)) | refine Wp.reg (by simp -implicitDefEqProofs; exact ⟨rfl, rfl⟩) ?_ | refine Wp.regA (by simp -implicitDefEqProofs; exact ⟨rfl, rfl⟩) (by rfl) ?_))
  exact ⟨trivial, 0, rfl, _, rfl, by simp, by simp⟩

theorem new1_c (zs : List Int) (g : Nat) (S : St) : mkT (X.at g) (den X E) S 8 [.sl (zs.map ic) .dead] = some (.loc S.σ.length 0, { S with σ := S.σ ++ [[.sl (zs.map ic) .dead, .int .i64 0]] }) := by
  have hP : (X.at g).P.funcs[8]? = some Try.f8 := by kernel_rfl
  simp only [mkT, hP, Option.bind_some, hand_plain [.sl (zs.map ic) .dead] _ [] S.σ (by simp), List.isEmpty_nil, if_true, new1, deck_eq]
  rfl

/-- The type that a deck makes, and where the deck then stands. -/
def typeP (zs : List Int) : Nat → Nat → Ty × Nat
  | 0, i => let p := nextP zs i 7
    (if p.1 = 3 then .list else if p.1 = 4 then .unit else .nat, p.2)
  | d + 1, i => let p := nextP zs i 7
    if p.1 = 3 then (.list, p.2) else if p.1 = 4 then (.unit, p.2)
    else if p.1 = 5 then (let a := typeP zs d p.2; let b := typeP zs d a.2; (.pair a.1 b.1, b.2))
    else if p.1 = 6 then (let a := typeP zs d p.2; let b := typeP zs d a.2; (.fn a.1 b.1, b.2))
    else (.nat, p.2)
theorem typeP_le {zs : List Int} : ∀ (d : Nat) {i : Nat}, i ≤ zs.length → (typeP zs d i).2 ≤ zs.length
  | 0, i, h => nextP_le 7 h
  | d + 1, i, h => by
    have h1 := nextP_le 7 h
    simp only [typeP]
    split
    · exact h1
    split
    · exact h1
    split
    · exact typeP_le d (typeP_le d h1)
    split
    · exact typeP_le d (typeP_le d h1)
    · exact h1
theorem typeP_size (zs : List Int) : ∀ (d i : Nat), (typeP zs d i).1.size < 2 ^ (d + 1)
  | 0, i => by
    simp only [typeP]
    split
    · simp [Ty.size]
    split <;> simp [Ty.size]
  | d + 1, i => by
    have h1 := typeP_size zs d
    have hp : 2 ≤ 2 ^ (d + 1) := by rw [Nat.pow_succ]; have := Nat.one_le_two_pow (n := d); omega
    simp only [typeP]
    rw [Nat.pow_succ]
    split
    · simp [Ty.size]; omega
    split
    · simp [Ty.size]; omega
    split
    · simp only [Ty.size]; have := h1 (nextP zs i 7).2; have := h1 (typeP zs d (nextP zs i 7).2).2; omega
    split
    · simp only [Ty.size]; have := h1 (nextP zs i 7).2; have := h1 (typeP zs d (nextP zs i 7).2).2; omega
    · simp [Ty.size]; omega
end M
end Go.Proofs.Ytgkdehfbeejlfaa
