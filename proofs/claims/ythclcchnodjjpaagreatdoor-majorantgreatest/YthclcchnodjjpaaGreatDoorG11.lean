/- A part of the proof: CxMj, TyA, TyB, TyC, TyD, TyE. -/
import Derived.Test.YthclcchnodjjpaaGreatDoorG10
import Derived.Test.YthclcchnodjjpaaGreatDoorProg
/- Written by gen.lean: what the semantics asks of this program. -/
namespace Go.Proofs.YthclcchnodjjpaaGreatDoor
namespace M
def rfL : List Nat := [25, 71, 86]
def ttL : List Nat := [0, 1, 23, 24, 25, 26, 28, 31, 37, 38, 40, 41, 42, 45, 49, 51, 52, 53, 54, 55, 56, 57, 58, 59, 60, 61, 62, 63, 64, 65, 68, 69, 70, 71, 72, 73, 74, 75, 76, 77, 78, 79, 80, 81, 82, 83, 85, 86, 92, 93, 94, 95, 96, 97, 98, 99, 100, 101, 102, 103, 104, 105, 107, 110, 111, 112, 113, 114, 116, 117, 118, 119, 120, 121, 122, 123, 124, 125, 127, 128, 129, 135, 139]
def imL : List Nat := []
/- not for T by themselves: [] -/
def extL : List Nat := []
def mkL : List Nat := [10]
def ltF : Nat → Nat → List (Nat × Nat)
  | 14, 8 => [(0, 9), (9, 14)]
  | 14, 11 => [(5, 8)]
  | 14, 13 => [(1, 11)]
  | 14, 14 => [(0, 6), (6, 7), (0, 9), (7, 9)]
  | 14, 16 => [(2, 13)]
  | 14, 17 => [(0, 6), (6, 7), (0, 13), (7, 13)]
  | 14, 20 => [(5, 8)]
  | 14, 36 => [(6, 9)]
  | 14, 38 => [(6, 9)]
  | 14, 42 => [(5, 8)]
  | 14, 45 => [(8, 12), (8, 14)]
  | 14, 47 => [(1, 18), (3, 18)]
  | 19, 29 => [(6, 7)]
  | 24, 3 => [(1, 3)]
  | 24, 7 => [(1, 4)]
  | 46, 4 => [(4, 5)]
  | 48, 14 => [(4, 10)]
  | 48, 20 => [(2, 14), (3, 14), (6, 14), (8, 14), (2, 15), (3, 15), (6, 15), (14, 18), (15, 18)]
  | 48, 24 => [(1, 14), (7, 14), (1, 15)]
  | 48, 25 => [(5, 8)]
  | 62, 9 => [(1, 3)]
  | 62, 12 => [(5, 8), (5, 10)]
  | 84, 6 => [(2, 8), (4, 8), (8, 10), (2, 12), (4, 12)]
  | 84, 7 => [(2, 8), (4, 8), (8, 10), (2, 12), (4, 12)]
  | 84, 11 => [(2, 10), (4, 10), (10, 12), (10, 14), (2, 16), (4, 16)]
  | _, _ => []
def cxOf (P : Program) : Cx := { P := P, ty := tyOf P, rf := fun t => rfL.contains t, tt := fun t => ttL.contains t, im := fun t => imL.contains t, lt := ltF, lz := fun _ => [], ext := fun f => extL.contains f, mkf := fun f => mkL.contains f }
set_option maxRecDepth 100000
theorem cx_ok : CxOk (cxOf Tryz.prog) := ⟨fun t ti h => tyOf_ok h, by kernel_rfl⟩
theorem bodies_all : ((List.range 160).all fun f => (cxOf Tryz.prog).ext f || match (Tryz.prog.funcs[f]?).bind (·.body) with | some c => codeOk ((cxOf Tryz.prog).at f) c | none => true) = true := by kernel_rfl
theorem bodies_size : Tryz.prog.funcs.size = 160 := by kernel_rfl
theorem bodies_ok : BodiesOk (cxOf Tryz.prog) := fun f fn c hx hf hc => by
  have hlt : f < (cxOf _).P.funcs.size := (Array.getElem?_eq_some_iff.1 hf).1
  have h := List.all_eq_true.1 bodies_all f (List.mem_range.2 (by rw [← bodies_size]; exact hlt))
  rw [hx, Bool.false_or] at h
  have hf' : Tryz.prog.funcs[f]? = some fn := hf
  rw [hf', Option.bind_some, hc] at h
  exact h
noncomputable def X : Cx := cxOf Tryz.prog
theorem X_ok : CxOk X := cx_ok
theorem X_bodies : BodiesOk X := bodies_ok
@[simp] theorem X_rf (t : Nat) : X.rf t = rfL.contains t := rfl
@[simp] theorem X_tt (t : Nat) : X.tt t = ttL.contains t := rfl
@[simp] theorem X_im (t : Nat) : X.im t = imL.contains t := rfl
@[simp] theorem X_mkf (t : Nat) : X.mkf t = mkL.contains t := rfl
@[simp] theorem X_ext (t : Nat) : X.ext t = extL.contains t := rfl
@[simp] theorem X_lt : X.lt = ltF := rfl
attribute [simp] rfL ttL imL mkL extL
@[simp] theorem X_ty2 : X.ty 2 = some ⟨1, 8, [.int .i64 0], .atom⟩ := by kernel_rfl
@[simp] theorem X_ty3 : X.ty 3 = some ⟨1, 8, [.int .i64 0], .atom⟩ := by kernel_rfl
@[simp] theorem X_ty4 : X.ty 4 = some ⟨1, 1, [.bool false], .atom⟩ := by kernel_rfl
@[simp] theorem X_ty5 : X.ty 5 = some ⟨1, 1, [.int .u8 0], .atom⟩ := by kernel_rfl
@[simp] theorem X_ty6 : X.ty 6 = some ⟨1, 1, [.int .u8 0], .atom⟩ := by kernel_rfl
@[simp] theorem X_ty7 : X.ty 7 = some ⟨4, 24, [.int .i64 0, .int .i64 0, .bool false, .int .u8 0], .struct [(0, 2), (1, 3), (2, 4), (3, 6)]⟩ := by kernel_rfl
@[simp] theorem X_ty8 : X.ty 8 = some ⟨4, 24, [.int .i64 0, .int .i64 0, .bool false, .int .u8 0], .struct [(0, 2), (1, 3), (2, 4), (3, 6)]⟩ := by kernel_rfl
@[simp] theorem X_ty12 : X.ty 12 = some ⟨1, 8, [.int .u64 0], .atom⟩ := by kernel_rfl
@[simp] theorem X_ty15 : X.ty 15 = some ⟨1, 8, [.nilp], .ptr⟩ := by kernel_rfl
@[simp] theorem X_ty16 : X.ty 16 = some ⟨1, 8, [.nilp], .ptr⟩ := by kernel_rfl
@[simp] theorem X_ty17 : X.ty 17 = some ⟨1, 8, [.nilp], .ptr⟩ := by kernel_rfl
@[simp] theorem X_ty18 : X.ty 18 = some ⟨1, 8, [.nilp], .struct [(0, 17)]⟩ := by kernel_rfl
@[simp] theorem X_ty19 : X.ty 19 = some ⟨1, 8, [.nilp], .struct [(0, 17)]⟩ := by kernel_rfl
@[simp] theorem X_ty20 : X.ty 20 = some ⟨1, 16, [.nili], .iface⟩ := by kernel_rfl
@[simp] theorem X_ty21 : X.ty 21 = some ⟨1, 4, [.int .i32 0], .atom⟩ := by kernel_rfl
@[simp] theorem X_ty22 : X.ty 22 = some ⟨1, 24, [.sl [] .full], .slice 3⟩ := by kernel_rfl
@[simp] theorem X_ty25 : X.ty 25 = some ⟨1, 8, [.nilp], .ptr⟩ := by kernel_rfl
@[simp] theorem X_ty27 : X.ty 27 = some ⟨1, 24, [.sl [] .full], .slice 30⟩ := by kernel_rfl
@[simp] theorem X_ty29 : X.ty 29 = some ⟨2, 32, [.int .i64 0, .sl [] .full], .struct [(0, 3), (1, 27)]⟩ := by kernel_rfl
@[simp] theorem X_ty30 : X.ty 30 = some ⟨2, 32, [.int .i64 0, .sl [] .full], .struct [(0, 3), (1, 27)]⟩ := by kernel_rfl
@[simp] theorem X_ty32 : X.ty 32 = some ⟨1, 24, [.sl [] .full], .slice 34⟩ := by kernel_rfl
@[simp] theorem X_ty33 : X.ty 33 = some ⟨5, 72, [.int .i64 0, .int .i64 0, .int .i64 0, .sl [] .full, .sl [] .full], .struct [(0, 3), (1, 3), (2, 30), (4, 32)]⟩ := by kernel_rfl
@[simp] theorem X_ty34 : X.ty 34 = some ⟨5, 72, [.int .i64 0, .int .i64 0, .int .i64 0, .sl [] .full, .sl [] .full], .struct [(0, 3), (1, 3), (2, 30), (4, 32)]⟩ := by kernel_rfl
@[simp] theorem X_ty35 : X.ty 35 = some ⟨1, 8, [.int .i64 0], .atom⟩ := by kernel_rfl
@[simp] theorem X_ty43 : X.ty 43 = some ⟨1, 24, [.sl [] .full], .slice 47⟩ := by kernel_rfl
@[simp] theorem X_ty46 : X.ty 46 = some ⟨4, 64, [.int .i64 0, .int .i64 0, .sl [] .full, .sl [] .full], .struct [(0, 3), (1, 3), (2, 22), (3, 43)]⟩ := by kernel_rfl
@[simp] theorem X_ty47 : X.ty 47 = some ⟨4, 64, [.int .i64 0, .int .i64 0, .sl [] .full, .sl [] .full], .struct [(0, 3), (1, 3), (2, 22), (3, 43)]⟩ := by kernel_rfl
@[simp] theorem X_ty66 : X.ty 66 = some ⟨2, 32, [.sl [] .full, .int .i64 0], .struct [(0, 22), (1, 3)]⟩ := by kernel_rfl
@[simp] theorem X_ty67 : X.ty 67 = some ⟨2, 32, [.sl [] .full, .int .i64 0], .struct [(0, 22), (1, 3)]⟩ := by kernel_rfl
@[simp] theorem X_ty71 : X.ty 71 = some ⟨1, 8, [.nilp], .ptr⟩ := by kernel_rfl
@[simp] theorem X_ty86 : X.ty 86 = some ⟨1, 8, [.nilp], .ptr⟩ := by kernel_rfl
@[simp] theorem X_ty87 : X.ty 87 = some ⟨3, 24, [.int .i64 0, .int .i64 0, .bool false], .struct [(0, 3), (1, 3), (2, 4)]⟩ := by kernel_rfl
@[simp] theorem X_ty88 : X.ty 88 = some ⟨3, 24, [.int .i64 0, .int .i64 0, .bool false], .struct [(0, 3), (1, 3), (2, 4)]⟩ := by kernel_rfl
@[simp] theorem X_ty89 : X.ty 89 = some ⟨1, 24, [.sl [] .full], .slice 91⟩ := by kernel_rfl
@[simp] theorem X_ty90 : X.ty 90 = some ⟨9, 152, [.int .i64 0, .sl [] .full, .sl [] .full, .int .i64 0, .int .i64 0, .int .i64 0, .sl [] .full, .sl [] .full, .sl [] .full], .struct [(0, 3), (1, 22), (2, 89), (3, 34), (8, 89)]⟩ := by kernel_rfl
@[simp] theorem X_ty91 : X.ty 91 = some ⟨9, 152, [.int .i64 0, .sl [] .full, .sl [] .full, .int .i64 0, .int .i64 0, .int .i64 0, .sl [] .full, .sl [] .full, .sl [] .full], .struct [(0, 3), (1, 22), (2, 89), (3, 34), (8, 89)]⟩ := by kernel_rfl
@[simp] theorem X_ty108 : X.ty 108 = some ⟨1, 8, [.int .i64 0], .struct [(0, 35)]⟩ := by kernel_rfl
@[simp] theorem X_ty109 : X.ty 109 = some ⟨1, 8, [.int .i64 0], .struct [(0, 35)]⟩ := by kernel_rfl
@[simp] theorem X_ty126 : X.ty 126 = some ⟨14, 112, [.int .i64 0, .int .i64 0, .int .i64 0, .int .i64 0, .int .i64 0, .int .i64 0, .int .i64 0, .int .i64 0, .int .i64 0, .int .i64 0, .int .i64 0, .int .i64 0, .int .i64 0, .int .i64 0], .arr 14 3⟩ := by kernel_rfl
@[simp] theorem X_ty132 : X.ty 132 = some ⟨0, 0, [], .arr 0 16⟩ := by kernel_rfl
@[simp] theorem X_ty133 : X.ty 133 = some ⟨0, 0, [], .struct [(0, 132)]⟩ := by kernel_rfl
@[simp] theorem X_ty134 : X.ty 134 = some ⟨0, 0, [], .struct [(0, 132)]⟩ := by kernel_rfl
@[simp] theorem X_ty136 : X.ty 136 = some ⟨1, 4, [.int .u32 0], .atom⟩ := by kernel_rfl
@[simp] theorem X_ty137 : X.ty 137 = some ⟨1, 1, [.int .u8 0], .atom⟩ := by kernel_rfl
@[simp] theorem X_ty138 : X.ty 138 = some ⟨1, 1, [.int .u8 0], .atom⟩ := by kernel_rfl
@[simp] theorem X_ty140 : X.ty 140 = some ⟨1, 8, [.nilp], .ptr⟩ := by kernel_rfl
@[simp] theorem X_ty141 : X.ty 141 = some ⟨1, 4, [.int .i32 0], .atom⟩ := by kernel_rfl
@[simp] theorem X_ty142 : X.ty 142 = some ⟨1, 4, [.int .i32 0], .atom⟩ := by kernel_rfl
@[simp] theorem X_ty143 : X.ty 143 = some ⟨11, 48, [.int .u64 0, .int .u64 0, .int .u32 0, .int .u8 0, .int .u8 0, .int .u8 0, .int .u8 0, .nilf, .nilp, .int .i32 0, .int .i32 0], .struct [(0, 12), (1, 12), (2, 136), (3, 137), (4, 5), (5, 5), (6, 138), (7, 139), (8, 140), (9, 141), (10, 142)]⟩ := by kernel_rfl
@[simp] theorem X_ty144 : X.ty 144 = some ⟨11, 48, [.int .u64 0, .int .u64 0, .int .u32 0, .int .u8 0, .int .u8 0, .int .u8 0, .int .u8 0, .nilf, .nilp, .int .i32 0, .int .i32 0], .struct [(0, 12), (1, 12), (2, 136), (3, 137), (4, 5), (5, 5), (6, 138), (7, 139), (8, 140), (9, 141), (10, 142)]⟩ := by kernel_rfl
@[simp] theorem X_ty145 : X.ty 145 = some ⟨1, 8, [.nilp], .atom⟩ := by kernel_rfl
end M
end Go.Proofs.YthclcchnodjjpaaGreatDoor
/- Types that are gone through: tree.OwnType, ref01.Copy, tree.typeNodes, tree.CheckType, types.Check. -/
set_option linter.unusedVariables false
set_option linter.unusedSimpArgs false
set_option maxRecDepth 10000
set_option maxHeartbeats 4000000
namespace Go.Proofs.YthclcchnodjjpaaGreatDoor
namespace M
attribute [local irreducible] Wp thenK blockK endK
variable {E : Oracle}
theorem copy (t : RT) (ht : t.nodes ≤ 1000000000) : den X E 86 [t.enc] [] = some (t.enc, []) := by
  induction t using RT.ind with | h k l ih =>
  have ihc : ∀ a ∈ l, ∀ (g : Nat) (S : St) (o1 : Own), callT (X.at g) (den X E) S 86 [.agg [.int .i64 a.k, .sl (List.map RT.cells a.as) o1]] = some (.agg [.int .i64 a.k, .sl (List.map RT.cells a.as) .dead], S) := by
    intros
    simpa using call_up (cf := X.at _) (fn := Tryz.f86) (args' := [_]) (by kernel_rfl) (by simp) (by simp; try rfl) (ih _ (by assumption) (by have := RT.nodes_mem (k := k) (l := l) (by assumption); omega)) _
  have hlen := RT.nodes_len k l
  refine den_w0 (fn := Tryz.f86) (by rfl) (by rfl) (by kernel_rfl) rfl (by rfl) ?_
  simp -implicitDefEqProofs
  (repeat (first | refine Wp.seq ?_ | refine Wp.block ?_ | refine Wp.skip ?_ | refine Wp.exit ?_ | refine Wp.ret ?_ | refine thenK_n ?_ | refine thenK_r ?_ | refine thenK_e ?_ | refine blockK_n ?_ | refine blockK_r ?_ | refine blockK_e ?_ | refine blockK_o (by decide) ?_ | (refine Wp.condT ?_ ?_; focus (simp -implicitDefEqProofs <;> fail)) | (refine Wp.condF ?_ ?_; focus (simp -implicitDefEqProofs <;> fail)) | refine Wp.reg (by simp -implicitDefEqProofs; exact ⟨rfl, rfl⟩) ?_ | refine Wp.regA (by simp -implicitDefEqProofs; exact ⟨rfl, rfl⟩) (by rfl) ?_))
  refine Wp.loopF [3, 5, 9, 10, 11, 12, 13, 14, 15, 16, 17, 18] [] (fun n w c tk => ∃ done rest o, l = done ++ rest ∧ n = rest.length ∧ w 9 = .int .i64 done.length ∧ w 3 = .sl (done.map RT.cells) o ∧ Can tk (done.map RT.cells) o) (l.length) ?_ ?_ ?_ ?_
  · rfl
  · rfl
  · exact ⟨[], l, .full, by simp, rfl, rfl, rfl, trivial⟩
  rintro n w c junk tk r σ ⟨done, rest, o, hl, rfl, h9, h3, hcan⟩ hr hσ
  simp -implicitDefEqProofs [h9, h3] at hr hσ
  subst hr hσ
  cases rest with
  | nil =>
    simp at hl
    subst hl
    (repeat (first | refine Wp.seq ?_ | refine Wp.block ?_ | refine Wp.skip ?_ | refine Wp.exit ?_ | refine Wp.ret ?_ | refine thenK_n ?_ | refine thenK_r ?_ | refine thenK_e ?_ | refine blockK_n ?_ | refine blockK_r ?_ | refine blockK_e ?_ | refine blockK_o (by decide) ?_ | (refine Wp.condT ?_ ?_; focus (simp -implicitDefEqProofs <;> fail)) | (refine Wp.condF ?_ ?_; focus (simp -implicitDefEqProofs <;> fail)) | refine Wp.reg (by simp -implicitDefEqProofs; exact ⟨rfl, rfl⟩) ?_ | refine Wp.regA (by simp -implicitDefEqProofs; exact ⟨rfl, rfl⟩) (by rfl) ?_))
    (apply endK_r; (focus (simp -implicitDefEqProofs [Tryz.f86]; try rfl)); (focus (intro g; simp -implicitDefEqProofs [Tryz.f86])); exact ⟨_, rfl⟩)
  | cons a rest =>
    have ha : el l done.length = some a := by simp [hl]
    have hlt : done.length < l.length := by simp [hl]
    have hi := ihc a (by simp [hl])
    have hw : IntKind.i64.wrap ((done.length : Int) + 1) = done.length + 1 := IntWalk.i64_in _ (by omega)
    obtain ⟨o', tk', happ, hcan'⟩ := can_app hcan 2 (by decide) (by simp) (by simp; omega)
    (repeat (first | refine Wp.seq ?_ | refine Wp.block ?_ | refine Wp.skip ?_ | refine Wp.exit ?_ | refine Wp.ret ?_ | refine thenK_n ?_ | refine thenK_r ?_ | refine thenK_e ?_ | refine blockK_n ?_ | refine blockK_r ?_ | refine blockK_e ?_ | refine blockK_o (by decide) ?_ | (refine Wp.condT ?_ ?_; focus (simp -implicitDefEqProofs [ha, hlt, hi, happ, hw] <;> fail)) | (refine Wp.condF ?_ ?_; focus (simp -implicitDefEqProofs [ha, hlt, hi, happ, hw] <;> fail)) | refine Wp.reg (by simp -implicitDefEqProofs [ha, hlt, hi, happ, hw]; exact ⟨rfl, rfl⟩) ?_ | refine Wp.regA (by simp -implicitDefEqProofs [ha, hlt, hi, happ, hw]; exact ⟨rfl, rfl⟩) (by rfl) ?_))
    refine ⟨by simp, ⟨_, by simp -implicitDefEqProofs; rfl⟩, rest.length, by simp, done ++ [a], rest, o', by simp [hl], rfl, by simp, by simp, by simpa using hcan' _⟩
theorem copy_c {k : Int} {ts : List RT} (ht : (RT.mk k ts).nodes ≤ 1000000000) (g : Nat) (S : St) (o1 : Own) : callT (X.at g) (den X E) S 86 [.agg [.int .i64 k, .sl (List.map RT.cells ts) o1]] = some (.agg [.int .i64 k, .sl (List.map RT.cells ts) .dead], S) := by
  simpa using call_up (cf := X.at g) (fn := Tryz.f86) (args' := [.agg [.int .i64 k, .sl (List.map RT.cells ts) o1]]) (by kernel_rfl) (by simp) (by simp; try rfl) (copy (.mk k ts) ht) S

theorem typeNodes (t : RT) (ht : t.nodes ≤ 1000000000) : den X E 114 [t.enc] [] = some (.tup [.int .i64 (if t.ok then t.nodes else 0), .bool t.ok], []) := by
  induction t using RT.ind with | h k l ih =>
  have ihc : ∀ a ∈ l, ∀ (g : Nat) (S : St) (o1 : Own), callT (X.at g) (den X E) S 114 [.agg [.int .i64 a.k, .sl (List.map RT.cells a.as) o1]] = some (.tup [.int .i64 (if a.ok then a.nodes else 0), .bool a.ok], S) := by
    intros
    simpa using call_up (cf := X.at _) (fn := Tryz.f114) (args' := [_]) (by kernel_rfl) (by simp) (by simp; try rfl) (ih _ (by assumption) (by have := RT.nodes_mem (k := k) (l := l) (by assumption); omega)) _
  have hlen := RT.nodes_len k l
  have hnod := RT.nodes_mk k l
  refine den_w0 (fn := Tryz.f114) (by rfl) (by rfl) (by kernel_rfl) rfl (by rfl) ?_
  simp -implicitDefEqProofs
  (repeat (first | refine Wp.seq ?_ | refine Wp.skip ?_ | refine Wp.exit ?_ | refine Wp.ret ?_ | refine thenK_n ?_ | refine thenK_r ?_ | refine thenK_e ?_ | refine blockK_n ?_ | refine blockK_r ?_ | refine blockK_e ?_ | refine blockK_o (by decide) ?_ | (refine Wp.condT ?_ ?_; focus (simp -implicitDefEqProofs <;> fail)) | (refine Wp.condF ?_ ?_; focus (simp -implicitDefEqProofs <;> fail)) | refine Wp.reg (by simp -implicitDefEqProofs; exact ⟨rfl, rfl⟩) ?_ | refine Wp.regA (by simp -implicitDefEqProofs; exact ⟨rfl, rfl⟩) (by rfl) ?_))
  refine Wp.cutF [2, 3, 4, 12, 13, 14, 15, 16, 17, 18] [] (fun w c tk => (k = 1 ∨ k = 2 ∨ k = 5 ∨ k = 3 ∨ k = 4) ∧ w 4 = .int .i64 (RT.want k) ∧ tk = []) ?_ ?_ ?_ ?_
  · rfl
  · rfl
  · by_cases h1 : k = 1
    · subst h1; (repeat (first | refine Wp.seq ?_ | refine Wp.block ?_ | refine Wp.skip ?_ | refine Wp.exit ?_ | refine Wp.ret ?_ | refine thenK_n ?_ | refine thenK_r ?_ | refine thenK_e ?_ | refine blockK_n ?_ | refine blockK_r ?_ | refine blockK_e ?_ | refine blockK_o (by decide) ?_ | (refine Wp.condT ?_ ?_; focus (simp -implicitDefEqProofs <;> fail)) | (refine Wp.condF ?_ ?_; focus (simp -implicitDefEqProofs <;> fail)) | refine Wp.reg (by simp -implicitDefEqProofs; exact ⟨rfl, rfl⟩) ?_ | refine Wp.regA (by simp -implicitDefEqProofs; exact ⟨rfl, rfl⟩) (by rfl) ?_)); refine ⟨by simp, ⟨_, by simp -implicitDefEqProofs; rfl⟩, by simp [RT.want]⟩
    by_cases h2 : k = 2
    · subst h2; (repeat (first | refine Wp.seq ?_ | refine Wp.block ?_ | refine Wp.skip ?_ | refine Wp.exit ?_ | refine Wp.ret ?_ | refine thenK_n ?_ | refine thenK_r ?_ | refine thenK_e ?_ | refine blockK_n ?_ | refine blockK_r ?_ | refine blockK_e ?_ | refine blockK_o (by decide) ?_ | (refine Wp.condT ?_ ?_; focus (simp -implicitDefEqProofs <;> fail)) | (refine Wp.condF ?_ ?_; focus (simp -implicitDefEqProofs <;> fail)) | refine Wp.reg (by simp -implicitDefEqProofs; exact ⟨rfl, rfl⟩) ?_ | refine Wp.regA (by simp -implicitDefEqProofs; exact ⟨rfl, rfl⟩) (by rfl) ?_)); refine ⟨by simp, ⟨_, by simp -implicitDefEqProofs; rfl⟩, by simp [RT.want]⟩
    by_cases h5 : k = 5
    · subst h5; (repeat (first | refine Wp.seq ?_ | refine Wp.block ?_ | refine Wp.skip ?_ | refine Wp.exit ?_ | refine Wp.ret ?_ | refine thenK_n ?_ | refine thenK_r ?_ | refine thenK_e ?_ | refine blockK_n ?_ | refine blockK_r ?_ | refine blockK_e ?_ | refine blockK_o (by decide) ?_ | (refine Wp.condT ?_ ?_; focus (simp -implicitDefEqProofs <;> fail)) | (refine Wp.condF ?_ ?_; focus (simp -implicitDefEqProofs <;> fail)) | refine Wp.reg (by simp -implicitDefEqProofs; exact ⟨rfl, rfl⟩) ?_ | refine Wp.regA (by simp -implicitDefEqProofs; exact ⟨rfl, rfl⟩) (by rfl) ?_)); refine ⟨by simp, ⟨_, by simp -implicitDefEqProofs; rfl⟩, by simp [RT.want]⟩
    by_cases h3 : k = 3
    · subst h3; (repeat (first | refine Wp.seq ?_ | refine Wp.block ?_ | refine Wp.skip ?_ | refine Wp.exit ?_ | refine Wp.ret ?_ | refine thenK_n ?_ | refine thenK_r ?_ | refine thenK_e ?_ | refine blockK_n ?_ | refine blockK_r ?_ | refine blockK_e ?_ | refine blockK_o (by decide) ?_ | (refine Wp.condT ?_ ?_; focus (simp -implicitDefEqProofs <;> fail)) | (refine Wp.condF ?_ ?_; focus (simp -implicitDefEqProofs <;> fail)) | refine Wp.reg (by simp -implicitDefEqProofs; exact ⟨rfl, rfl⟩) ?_ | refine Wp.regA (by simp -implicitDefEqProofs; exact ⟨rfl, rfl⟩) (by rfl) ?_)); refine ⟨by simp, ⟨_, by simp -implicitDefEqProofs; rfl⟩, by simp [RT.want]⟩
    by_cases h4 : k = 4
    · subst h4; (repeat (first | refine Wp.seq ?_ | refine Wp.block ?_ | refine Wp.skip ?_ | refine Wp.exit ?_ | refine Wp.ret ?_ | refine thenK_n ?_ | refine thenK_r ?_ | refine thenK_e ?_ | refine blockK_n ?_ | refine blockK_r ?_ | refine blockK_e ?_ | refine blockK_o (by decide) ?_ | (refine Wp.condT ?_ ?_; focus (simp -implicitDefEqProofs <;> fail)) | (refine Wp.condF ?_ ?_; focus (simp -implicitDefEqProofs <;> fail)) | refine Wp.reg (by simp -implicitDefEqProofs; exact ⟨rfl, rfl⟩) ?_ | refine Wp.regA (by simp -implicitDefEqProofs; exact ⟨rfl, rfl⟩) (by rfl) ?_)); refine ⟨by simp, ⟨_, by simp -implicitDefEqProofs; rfl⟩, by simp [RT.want]⟩
    have hb := RT.ok_bad (k := k) (l := l) (by omega)
    (repeat (first | refine Wp.seq ?_ | refine Wp.block ?_ | refine Wp.skip ?_ | refine Wp.exit ?_ | refine Wp.ret ?_ | refine thenK_n ?_ | refine thenK_r ?_ | refine thenK_e ?_ | refine blockK_n ?_ | refine blockK_r ?_ | refine blockK_e ?_ | refine blockK_o (by decide) ?_ | (refine Wp.condT ?_ ?_; focus (simp -implicitDefEqProofs [h1, h2, h3, h4, h5] <;> fail)) | (refine Wp.condF ?_ ?_; focus (simp -implicitDefEqProofs [h1, h2, h3, h4, h5] <;> fail)) | refine Wp.reg (by simp -implicitDefEqProofs [h1, h2, h3, h4, h5]; exact ⟨rfl, rfl⟩) ?_ | refine Wp.regA (by simp -implicitDefEqProofs [h1, h2, h3, h4, h5]; exact ⟨rfl, rfl⟩) (by rfl) ?_))
    (apply endK_r; (focus (simp -implicitDefEqProofs [Tryz.f114, hb]; try rfl)); (focus (intro g; simp -implicitDefEqProofs [Tryz.f114, hb])); exact ⟨_, rfl⟩)
  rintro w c junk tk r σ ⟨hk, h4, rfl⟩ hr hσ
  simp -implicitDefEqProofs [h4] at hr hσ
  subst hr hσ
  by_cases hlw : l.length = RT.want k
  rotate_left
  · have hb := RT.ok_len hk hlw
    have hlw' : ¬ ((l.length : Int) = RT.want k) := by omega
    (repeat (first | refine Wp.seq ?_ | refine Wp.block ?_ | refine Wp.skip ?_ | refine Wp.exit ?_ | refine Wp.ret ?_ | refine thenK_n ?_ | refine thenK_r ?_ | refine thenK_e ?_ | refine blockK_n ?_ | refine blockK_r ?_ | refine blockK_e ?_ | refine blockK_o (by decide) ?_ | (refine Wp.condT ?_ ?_; focus (simp -implicitDefEqProofs [hlw'] <;> fail)) | (refine Wp.condF ?_ ?_; focus (simp -implicitDefEqProofs [hlw'] <;> fail)) | refine Wp.reg (by simp -implicitDefEqProofs [hlw']; exact ⟨rfl, rfl⟩) ?_ | refine Wp.regA (by simp -implicitDefEqProofs [hlw']; exact ⟨rfl, rfl⟩) (by rfl) ?_))
    (apply endK_r; (focus (simp -implicitDefEqProofs [Tryz.f114, hb]; try rfl)); (focus (intro g; simp -implicitDefEqProofs [Tryz.f114, hb])); exact ⟨_, rfl⟩)
  have hok := RT.ok_all hk hlw
  have hlw' : (l.length : Int) = RT.want k := by omega
  (repeat (first | refine Wp.seq ?_ | refine Wp.block ?_ | refine Wp.skip ?_ | refine Wp.exit ?_ | refine Wp.ret ?_ | refine thenK_n ?_ | refine thenK_r ?_ | refine thenK_e ?_ | refine blockK_n ?_ | refine blockK_r ?_ | refine blockK_e ?_ | refine blockK_o (by decide) ?_ | (refine Wp.condT ?_ ?_; focus (simp -implicitDefEqProofs [hlw'] <;> fail)) | (refine Wp.condF ?_ ?_; focus (simp -implicitDefEqProofs [hlw'] <;> fail)) | refine Wp.reg (by simp -implicitDefEqProofs [hlw']; exact ⟨rfl, rfl⟩) ?_ | refine Wp.regA (by simp -implicitDefEqProofs [hlw']; exact ⟨rfl, rfl⟩) (by rfl) ?_))
  refine Wp.loopF [2, 3, 5, 7, 8, 9, 27, 28, 29, 30, 31, 32, 33, 34, 35, 36, 37, 38, 39, 40, 41] [] (fun n w c tk => ∃ done rest, l = done ++ rest ∧ n = rest.length ∧ w 27 = .int .i64 done.length ∧ w 5 = .int .i64 (1 + (done.map RT.nodes).sum : Nat) ∧ done.all RT.ok = true) (l.length) ?_ ?_ ?_ ?_
  · rfl
  · rfl
  · exact ⟨[], l, by simp, rfl, rfl, rfl, rfl⟩
  rintro n w c junk tk r σ ⟨done, rest, hl, rfl, h27, h5, hall⟩ hr hσ
  simp -implicitDefEqProofs [h27, h5] at hr hσ
  subst hr hσ
  cases rest with
  | nil =>
    simp at hl
    subst hl
    rw [hall] at hok
    (repeat (first | refine Wp.seq ?_ | refine Wp.block ?_ | refine Wp.skip ?_ | refine Wp.exit ?_ | refine Wp.ret ?_ | refine thenK_n ?_ | refine thenK_r ?_ | refine thenK_e ?_ | refine blockK_n ?_ | refine blockK_r ?_ | refine blockK_e ?_ | refine blockK_o (by decide) ?_ | (refine Wp.condT ?_ ?_; focus (simp -implicitDefEqProofs [hlw] <;> fail)) | (refine Wp.condF ?_ ?_; focus (simp -implicitDefEqProofs [hlw] <;> fail)) | refine Wp.reg (by simp -implicitDefEqProofs [hlw]; exact ⟨rfl, rfl⟩) ?_ | refine Wp.regA (by simp -implicitDefEqProofs [hlw]; exact ⟨rfl, rfl⟩) (by rfl) ?_))
    (apply endK_r; (focus (simp -implicitDefEqProofs [Tryz.f114, hok, hnod]; try rfl)); (focus (intro g; simp -implicitDefEqProofs [Tryz.f114, hok, hnod])); exact ⟨_, rfl⟩)
  | cons a rest =>
    have ha : el l done.length = some a := by simp [hl]
    have hlt : done.length < RT.want k := by rw [← hlw]; simp [hl]
    have hi := ihc a (by simp [hl])
    have hw : IntKind.i64.wrap ((done.length : Int) + 1) = done.length + 1 := IntWalk.i64_in _ (by omega)
    cases hoka : a.ok with
    | false =>
      have hof : (RT.mk k l).ok = false := by rw [hok, hl]; simp [hoka]
      (repeat (first | refine Wp.seq ?_ | refine Wp.block ?_ | refine Wp.skip ?_ | refine Wp.exit ?_ | refine Wp.ret ?_ | refine thenK_n ?_ | refine thenK_r ?_ | refine thenK_e ?_ | refine blockK_n ?_ | refine blockK_r ?_ | refine blockK_e ?_ | refine blockK_o (by decide) ?_ | (refine Wp.condT ?_ ?_; focus (simp -implicitDefEqProofs [ha, hlt, hi, hw, hoka] <;> fail)) | (refine Wp.condF ?_ ?_; focus (simp -implicitDefEqProofs [ha, hlt, hi, hw, hoka] <;> fail)) | refine Wp.reg (by simp -implicitDefEqProofs [ha, hlt, hi, hw, hoka]; exact ⟨rfl, rfl⟩) ?_ | refine Wp.regA (by simp -implicitDefEqProofs [ha, hlt, hi, hw, hoka]; exact ⟨rfl, rfl⟩) (by rfl) ?_))
      (apply endK_r; (focus (simp -implicitDefEqProofs [Tryz.f114, hof]; try rfl)); (focus (intro g; simp -implicitDefEqProofs [Tryz.f114, hof])); exact ⟨_, rfl⟩)
    | true =>
      have hs : (List.map RT.nodes l).sum = (done.map RT.nodes).sum + a.nodes + (rest.map RT.nodes).sum := by rw [hl]; simp; omega
      have hw5 : IntKind.i64.wrap ((1 : Int) + (done.map RT.nodes).sum + a.nodes) = 1 + (done.map RT.nodes).sum + a.nodes := IntWalk.i64_in _ (by omega)
      (repeat (first | refine Wp.seq ?_ | refine Wp.block ?_ | refine Wp.skip ?_ | refine Wp.exit ?_ | refine Wp.ret ?_ | refine thenK_n ?_ | refine thenK_r ?_ | refine thenK_e ?_ | refine blockK_n ?_ | refine blockK_r ?_ | refine blockK_e ?_ | refine blockK_o (by decide) ?_ | (refine Wp.condT ?_ ?_; focus (simp -implicitDefEqProofs [ha, hlt, hi, hw, hoka, hw5] <;> fail)) | (refine Wp.condF ?_ ?_; focus (simp -implicitDefEqProofs [ha, hlt, hi, hw, hoka, hw5] <;> fail)) | refine Wp.reg (by simp -implicitDefEqProofs [ha, hlt, hi, hw, hoka, hw5]; exact ⟨rfl, rfl⟩) ?_ | refine Wp.regA (by simp -implicitDefEqProofs [ha, hlt, hi, hw, hoka, hw5]; exact ⟨rfl, rfl⟩) (by rfl) ?_))
      refine ⟨by simp, ⟨_, by simp -implicitDefEqProofs; rfl⟩, rest.length, by simp, done ++ [a], rest, by simp [hl], rfl, by simp, by simp; omega, by simp [hall, hoka]⟩
theorem typeNodes_c {k : Int} {ts : List RT} (ht : (RT.mk k ts).nodes ≤ 1000000000) (g : Nat) (S : St) (o1 : Own) : callT (X.at g) (den X E) S 114 [.agg [.int .i64 k, .sl (List.map RT.cells ts) o1]] = some (.tup [.int .i64 (if (RT.mk k ts).ok then (RT.mk k ts).nodes else 0), .bool (RT.mk k ts).ok], S) := by
  simpa using call_up (cf := X.at g) (fn := Tryz.f114) (args' := [.agg [.int .i64 k, .sl (List.map RT.cells ts) o1]]) (by kernel_rfl) (by simp) (by simp; try rfl) (typeNodes (.mk k ts) ht) S

theorem checkType (t : RT) (ht : t.nodes ≤ 1000000000) : den X E 98 [t.enc] [] = some (.tup [.int .i64 (if t.err = 0 then t.nodes else 0), .int .i64 t.err], []) := by
  have hc := typeNodes_c (E := E) (k := t.k) (ts := t.as) (by simpa using ht)
  simp at hc
  cases hok : t.ok with
  | false =>
    have he : t.err = 2 := by simp [RT.err, hok]
    refine den_w0 (fn := Tryz.f98) (by rfl) (by rfl) (by kernel_rfl) rfl (by rfl) ?_
    simp -implicitDefEqProofs
    (repeat (first | refine Wp.seq ?_ | refine Wp.block ?_ | refine Wp.skip ?_ | refine Wp.exit ?_ | refine Wp.ret ?_ | refine thenK_n ?_ | refine thenK_r ?_ | refine thenK_e ?_ | refine blockK_n ?_ | refine blockK_r ?_ | refine blockK_e ?_ | refine blockK_o (by decide) ?_ | (refine Wp.condT ?_ ?_; focus (simp -implicitDefEqProofs [hc, hok] <;> fail)) | (refine Wp.condF ?_ ?_; focus (simp -implicitDefEqProofs [hc, hok] <;> fail)) | refine Wp.reg (by simp -implicitDefEqProofs [hc, hok]; exact ⟨rfl, rfl⟩) ?_ | refine Wp.regA (by simp -implicitDefEqProofs [hc, hok]; exact ⟨rfl, rfl⟩) (by rfl) ?_))
    (apply endK_r; (focus (simp -implicitDefEqProofs [Tryz.f98, he]; try rfl)); (focus (intro g; simp -implicitDefEqProofs [Tryz.f98, he])); exact ⟨_, rfl⟩)
  | true =>
    by_cases hn : t.nodes ≤ 64
    · have he : t.err = 0 := by simp [RT.err, hok, hn]
      have hn' : ¬ (64 : Int) < t.nodes := by omega
      refine den_w0 (fn := Tryz.f98) (by rfl) (by rfl) (by kernel_rfl) rfl (by rfl) ?_
      simp -implicitDefEqProofs
      (repeat (first | refine Wp.seq ?_ | refine Wp.block ?_ | refine Wp.skip ?_ | refine Wp.exit ?_ | refine Wp.ret ?_ | refine thenK_n ?_ | refine thenK_r ?_ | refine thenK_e ?_ | refine blockK_n ?_ | refine blockK_r ?_ | refine blockK_e ?_ | refine blockK_o (by decide) ?_ | (refine Wp.condT ?_ ?_; focus (simp -implicitDefEqProofs [hc, hok, hn'] <;> fail)) | (refine Wp.condF ?_ ?_; focus (simp -implicitDefEqProofs [hc, hok, hn'] <;> fail)) | refine Wp.reg (by simp -implicitDefEqProofs [hc, hok, hn']; exact ⟨rfl, rfl⟩) ?_ | refine Wp.regA (by simp -implicitDefEqProofs [hc, hok, hn']; exact ⟨rfl, rfl⟩) (by rfl) ?_))
      (apply endK_r; (focus (simp -implicitDefEqProofs [Tryz.f98, he]; try rfl)); (focus (intro g; simp -implicitDefEqProofs [Tryz.f98, he])); exact ⟨_, rfl⟩)
    · have he : t.err = 4 := by simp [RT.err, hok, hn]
      have hn' : (64 : Int) < t.nodes := by omega
      refine den_w0 (fn := Tryz.f98) (by rfl) (by rfl) (by kernel_rfl) rfl (by rfl) ?_
      simp -implicitDefEqProofs
      (repeat (first | refine Wp.seq ?_ | refine Wp.block ?_ | refine Wp.skip ?_ | refine Wp.exit ?_ | refine Wp.ret ?_ | refine thenK_n ?_ | refine thenK_r ?_ | refine thenK_e ?_ | refine blockK_n ?_ | refine blockK_r ?_ | refine blockK_e ?_ | refine blockK_o (by decide) ?_ | (refine Wp.condT ?_ ?_; focus (simp -implicitDefEqProofs [hc, hok, hn'] <;> fail)) | (refine Wp.condF ?_ ?_; focus (simp -implicitDefEqProofs [hc, hok, hn'] <;> fail)) | refine Wp.reg (by simp -implicitDefEqProofs [hc, hok, hn']; exact ⟨rfl, rfl⟩) ?_ | refine Wp.regA (by simp -implicitDefEqProofs [hc, hok, hn']; exact ⟨rfl, rfl⟩) (by rfl) ?_))
      (apply endK_r; (focus (simp -implicitDefEqProofs [Tryz.f98, he]; try rfl)); (focus (intro g; simp -implicitDefEqProofs [Tryz.f98, he])); exact ⟨_, rfl⟩)
theorem checkType_c {k : Int} {ts : List RT} (ht : (RT.mk k ts).nodes ≤ 1000000000) (g : Nat) (S : St) (o1 : Own) : callT (X.at g) (den X E) S 98 [.agg [.int .i64 k, .sl (List.map RT.cells ts) o1]] = some (.tup [.int .i64 (if (RT.mk k ts).err = 0 then (RT.mk k ts).nodes else 0), .int .i64 (RT.mk k ts).err], S) := by
  simpa using call_up (cf := X.at g) (fn := Tryz.f98) (args' := [.agg [.int .i64 k, .sl (List.map RT.cells ts) o1]]) (by kernel_rfl) (by simp) (by simp; try rfl) (checkType (.mk k ts) ht) S

theorem typesCheck (t : RT) (ht : t.nodes ≤ 1000000000) : den X E 57 [t.enc] [] = some (.int .i64 t.err, []) := by
  have hc := checkType_c (E := E) (k := t.k) (ts := t.as) (by simpa using ht)
  simp at hc
  refine den_w0 (fn := Tryz.f57) (by rfl) (by rfl) (by kernel_rfl) rfl (by rfl) ?_
  simp -implicitDefEqProofs
  (repeat (first | refine Wp.seq ?_ | refine Wp.block ?_ | refine Wp.skip ?_ | refine Wp.exit ?_ | refine Wp.ret ?_ | refine thenK_n ?_ | refine thenK_r ?_ | refine thenK_e ?_ | refine blockK_n ?_ | refine blockK_r ?_ | refine blockK_e ?_ | refine blockK_o (by decide) ?_ | (refine Wp.condT ?_ ?_; focus (simp -implicitDefEqProofs [hc] <;> fail)) | (refine Wp.condF ?_ ?_; focus (simp -implicitDefEqProofs [hc] <;> fail)) | refine Wp.reg (by simp -implicitDefEqProofs [hc]; exact ⟨rfl, rfl⟩) ?_ | refine Wp.regA (by simp -implicitDefEqProofs [hc]; exact ⟨rfl, rfl⟩) (by rfl) ?_))
  (apply endK_r; (focus (simp -implicitDefEqProofs [Tryz.f57]; try rfl)); (focus (intro g; simp -implicitDefEqProofs [Tryz.f57])); exact ⟨_, rfl⟩)
theorem typesCheck_c {k : Int} {ts : List RT} (ht : (RT.mk k ts).nodes ≤ 1000000000) (g : Nat) (S : St) (o1 : Own) : callT (X.at g) (den X E) S 57 [.agg [.int .i64 k, .sl (List.map RT.cells ts) o1]] = some (.int .i64 (RT.mk k ts).err, S) := by
  simpa using call_up (cf := X.at g) (fn := Tryz.f57) (args' := [.agg [.int .i64 k, .sl (List.map RT.cells ts) o1]]) (by kernel_rfl) (by simp) (by simp; try rfl) (typesCheck (.mk k ts) ht) S
end M
end Go.Proofs.YthclcchnodjjpaaGreatDoor
/- Small types (ref01.Nat, List, Unit, Two, Fun), decks (make.Mod, Few, New, Next), make.Type. -/
set_option linter.unusedVariables false
set_option linter.unusedSimpArgs false
set_option maxRecDepth 10000
set_option maxHeartbeats 4000000
namespace Go.Proofs.YthclcchnodjjpaaGreatDoor
namespace M
attribute [local irreducible] Wp thenK blockK endK
variable {E : Oracle}
open T (Ty Tm)
theorem nat1 : den X E 39 [] [] = some ((RT.mk 1 []).enc, []) := by
  refine den_w0 (fn := Tryz.f39) (by rfl) (by rfl) (by kernel_rfl) rfl (by rfl) ?_
  simp -implicitDefEqProofs
  (repeat (first | refine Wp.seq ?_ | refine Wp.block ?_ | refine Wp.skip ?_ | refine Wp.exit ?_ | refine Wp.ret ?_ | refine thenK_n ?_ | refine thenK_r ?_ | refine thenK_e ?_ | refine blockK_n ?_ | refine blockK_r ?_ | refine blockK_e ?_ | refine blockK_o (by decide) ?_ | (refine Wp.condT ?_ ?_; focus (simp -implicitDefEqProofs <;> fail)) | (refine Wp.condF ?_ ?_; focus (simp -implicitDefEqProofs <;> fail)) | refine Wp.reg (by simp -implicitDefEqProofs; exact ⟨rfl, rfl⟩) ?_ | refine Wp.regA (by simp -implicitDefEqProofs; exact ⟨rfl, rfl⟩) (by rfl) ?_))
  (apply endK_r; (focus (simp -implicitDefEqProofs [Tryz.f39]; try rfl)); (focus (intro g; simp -implicitDefEqProofs [Tryz.f39])); exact ⟨_, rfl⟩)
theorem nat1_c  (g : Nat) (S : St)  : callT (X.at g) (den X E) S 39 [] = some (.agg [.int .i64 1, .sl (List.map RT.cells []) .dead], S) := by
  simpa using call_up (cf := X.at g) (fn := Tryz.f39) (args' := []) (by kernel_rfl) (by simp) (by simp; try rfl) (nat1) S
theorem list1 : den X E 40 [] [] = some ((RT.mk 2 []).enc, []) := by
  refine den_w0 (fn := Tryz.f40) (by rfl) (by rfl) (by kernel_rfl) rfl (by rfl) ?_
  simp -implicitDefEqProofs
  (repeat (first | refine Wp.seq ?_ | refine Wp.block ?_ | refine Wp.skip ?_ | refine Wp.exit ?_ | refine Wp.ret ?_ | refine thenK_n ?_ | refine thenK_r ?_ | refine thenK_e ?_ | refine blockK_n ?_ | refine blockK_r ?_ | refine blockK_e ?_ | refine blockK_o (by decide) ?_ | (refine Wp.condT ?_ ?_; focus (simp -implicitDefEqProofs <;> fail)) | (refine Wp.condF ?_ ?_; focus (simp -implicitDefEqProofs <;> fail)) | refine Wp.reg (by simp -implicitDefEqProofs; exact ⟨rfl, rfl⟩) ?_ | refine Wp.regA (by simp -implicitDefEqProofs; exact ⟨rfl, rfl⟩) (by rfl) ?_))
  (apply endK_r; (focus (simp -implicitDefEqProofs [Tryz.f40]; try rfl)); (focus (intro g; simp -implicitDefEqProofs [Tryz.f40])); exact ⟨_, rfl⟩)
theorem list1_c  (g : Nat) (S : St)  : callT (X.at g) (den X E) S 40 [] = some (.agg [.int .i64 2, .sl (List.map RT.cells []) .dead], S) := by
  simpa using call_up (cf := X.at g) (fn := Tryz.f40) (args' := []) (by kernel_rfl) (by simp) (by simp; try rfl) (list1) S
theorem unit1 : den X E 41 [] [] = some ((RT.mk 5 []).enc, []) := by
  refine den_w0 (fn := Tryz.f41) (by rfl) (by rfl) (by kernel_rfl) rfl (by rfl) ?_
  simp -implicitDefEqProofs
  (repeat (first | refine Wp.seq ?_ | refine Wp.block ?_ | refine Wp.skip ?_ | refine Wp.exit ?_ | refine Wp.ret ?_ | refine thenK_n ?_ | refine thenK_r ?_ | refine thenK_e ?_ | refine blockK_n ?_ | refine blockK_r ?_ | refine blockK_e ?_ | refine blockK_o (by decide) ?_ | (refine Wp.condT ?_ ?_; focus (simp -implicitDefEqProofs <;> fail)) | (refine Wp.condF ?_ ?_; focus (simp -implicitDefEqProofs <;> fail)) | refine Wp.reg (by simp -implicitDefEqProofs; exact ⟨rfl, rfl⟩) ?_ | refine Wp.regA (by simp -implicitDefEqProofs; exact ⟨rfl, rfl⟩) (by rfl) ?_))
  (apply endK_r; (focus (simp -implicitDefEqProofs [Tryz.f41]; try rfl)); (focus (intro g; simp -implicitDefEqProofs [Tryz.f41])); exact ⟨_, rfl⟩)
theorem unit1_c  (g : Nat) (S : St)  : callT (X.at g) (den X E) S 41 [] = some (.agg [.int .i64 5, .sl (List.map RT.cells []) .dead], S) := by
  simpa using call_up (cf := X.at g) (fn := Tryz.f41) (args' := []) (by kernel_rfl) (by simp) (by simp; try rfl) (unit1) S
theorem fun1 (a b : RT) (ha : a.nodes ≤ 1000000000) (hb : b.nodes ≤ 1000000000) : den X E 43 [a.enc, b.enc] [] = some ((RT.mk 4 [a, b]).enc, []) := by
  have c1 := copy_c (E := E) (k := a.k) (ts := a.as) (by simpa using ha)
  have c2 := copy_c (E := E) (k := b.k) (ts := b.as) (by simpa using hb)
  refine den_w0 (fn := Tryz.f43) (by rfl) (by rfl) (by kernel_rfl) rfl (by rfl) ?_
  simp -implicitDefEqProofs
  (repeat (first | refine Wp.seq ?_ | refine Wp.block ?_ | refine Wp.skip ?_ | refine Wp.exit ?_ | refine Wp.ret ?_ | refine thenK_n ?_ | refine thenK_r ?_ | refine thenK_e ?_ | refine blockK_n ?_ | refine blockK_r ?_ | refine blockK_e ?_ | refine blockK_o (by decide) ?_ | (refine Wp.condT ?_ ?_; focus (simp -implicitDefEqProofs [c1, c2] <;> fail)) | (refine Wp.condF ?_ ?_; focus (simp -implicitDefEqProofs [c1, c2] <;> fail)) | refine Wp.reg (by simp -implicitDefEqProofs [c1, c2]; exact ⟨rfl, rfl⟩) ?_ | refine Wp.regA (by simp -implicitDefEqProofs [c1, c2]; exact ⟨rfl, rfl⟩) (by rfl) ?_))
  (apply endK_r; (focus (simp -implicitDefEqProofs [Tryz.f43]; try rfl)); (focus (intro g; simp -implicitDefEqProofs [Tryz.f43])); exact ⟨_, rfl⟩)
theorem fun1_c {k m : Int} {ts us : List RT} (ha : (RT.mk k ts).nodes ≤ 1000000000) (hb : (RT.mk m us).nodes ≤ 1000000000) (g : Nat) (S : St) (o1 o2 : Own) : callT (X.at g) (den X E) S 43 [.agg [.int .i64 k, .sl (List.map RT.cells ts) o1], .agg [.int .i64 m, .sl (List.map RT.cells us) o2]] = some (.agg [.int .i64 4, .sl (List.map RT.cells [.mk k ts, .mk m us]) .dead], S) := by
  simpa using call_up (cf := X.at g) (fn := Tryz.f43) (args' := [.agg [.int .i64 k, .sl (List.map RT.cells ts) o1], .agg [.int .i64 m, .sl (List.map RT.cells us) o2]]) (by kernel_rfl) (by simp) (by simp; try rfl) (fun1 (.mk k ts) (.mk m us) ha hb) S
theorem two1 (a b : RT) (ha : a.nodes ≤ 1000000000) (hb : b.nodes ≤ 1000000000) : den X E 42 [a.enc, b.enc] [] = some ((RT.mk 3 [a, b]).enc, []) := by
  have c1 := copy_c (E := E) (k := a.k) (ts := a.as) (by simpa using ha)
  have c2 := copy_c (E := E) (k := b.k) (ts := b.as) (by simpa using hb)
  refine den_w0 (fn := Tryz.f42) (by rfl) (by rfl) (by kernel_rfl) rfl (by rfl) ?_
  simp -implicitDefEqProofs
  (repeat (first | refine Wp.seq ?_ | refine Wp.block ?_ | refine Wp.skip ?_ | refine Wp.exit ?_ | refine Wp.ret ?_ | refine thenK_n ?_ | refine thenK_r ?_ | refine thenK_e ?_ | refine blockK_n ?_ | refine blockK_r ?_ | refine blockK_e ?_ | refine blockK_o (by decide) ?_ | (refine Wp.condT ?_ ?_; focus (simp -implicitDefEqProofs [c1, c2] <;> fail)) | (refine Wp.condF ?_ ?_; focus (simp -implicitDefEqProofs [c1, c2] <;> fail)) | refine Wp.reg (by simp -implicitDefEqProofs [c1, c2]; exact ⟨rfl, rfl⟩) ?_ | refine Wp.regA (by simp -implicitDefEqProofs [c1, c2]; exact ⟨rfl, rfl⟩) (by rfl) ?_))
  (apply endK_r; (focus (simp -implicitDefEqProofs [Tryz.f42]; try rfl)); (focus (intro g; simp -implicitDefEqProofs [Tryz.f42])); exact ⟨_, rfl⟩)
theorem two1_c {k m : Int} {ts us : List RT} (ha : (RT.mk k ts).nodes ≤ 1000000000) (hb : (RT.mk m us).nodes ≤ 1000000000) (g : Nat) (S : St) (o1 o2 : Own) : callT (X.at g) (den X E) S 42 [.agg [.int .i64 k, .sl (List.map RT.cells ts) o1], .agg [.int .i64 m, .sl (List.map RT.cells us) o2]] = some (.agg [.int .i64 3, .sl (List.map RT.cells [.mk k ts, .mk m us]) .dead], S) := by
  simpa using call_up (cf := X.at g) (fn := Tryz.f42) (args' := [.agg [.int .i64 k, .sl (List.map RT.cells ts) o1], .agg [.int .i64 m, .sl (List.map RT.cells us) o2]]) (by kernel_rfl) (by simp) (by simp; try rfl) (two1 (.mk k ts) (.mk m us) ha hb) S

theorem mod1 (n k : Int) (hk : 1 ≤ k) (hk2 : k ≤ 1000000) : den X E 80 [.int .i64 n, .int .i64 k] [] = some (.int .i64 (n % k), []) := by
  have hk0 : k ≠ 0 := by omega
  have hb1 : -k < n.tmod k := by
    have := Int.lt_tmod_of_pos n (show 0 < k by omega)
    omega
  have hb2 : n.tmod k < k := Int.tmod_lt_of_pos n (by omega)
  have hw : IntKind.i64.wrap (n.tmod k + k) = n.tmod k + k := IntWalk.i64_in _ (by omega)
  have hmod : (n.tmod k + k).tmod k = n % k := by
    rw [Int.tmod_eq_emod_of_nonneg (by omega), Int.add_emod_right]
    rw [Int.tmod_def, Int.sub_mul_emod_self_left]
  refine den_w0 (fn := Tryz.f80) (by rfl) (by rfl) (by kernel_rfl) rfl (by rfl) ?_
  simp -implicitDefEqProofs
  (repeat (first | refine Wp.seq ?_ | refine Wp.block ?_ | refine Wp.skip ?_ | refine Wp.exit ?_ | refine Wp.ret ?_ | refine thenK_n ?_ | refine thenK_r ?_ | refine thenK_e ?_ | refine blockK_n ?_ | refine blockK_r ?_ | refine blockK_e ?_ | refine blockK_o (by decide) ?_ | (refine Wp.condT ?_ ?_; focus (simp -implicitDefEqProofs [hk0, hw, hmod] <;> fail)) | (refine Wp.condF ?_ ?_; focus (simp -implicitDefEqProofs [hk0, hw, hmod] <;> fail)) | refine Wp.reg (by simp -implicitDefEqProofs [hk0, hw, hmod]; exact ⟨rfl, rfl⟩) ?_ | refine Wp.regA (by simp -implicitDefEqProofs [hk0, hw, hmod]; exact ⟨rfl, rfl⟩) (by rfl) ?_))
  (apply endK_r; (focus (simp -implicitDefEqProofs [Tryz.f80]; try rfl)); (focus (intro g; simp -implicitDefEqProofs [Tryz.f80])); exact ⟨_, rfl⟩)
theorem mod1_c (n k : Int) (hk : 1 ≤ k) (hk2 : k ≤ 1000000) (g : Nat) (S : St)  : callT (X.at g) (den X E) S 80 [.int .i64 n, .int .i64 k] = some (.int .i64 (n % k), S) := by
  simpa using call_up (cf := X.at g) (fn := Tryz.f80) (args' := [.int .i64 n, .int .i64 k]) (by kernel_rfl) (by simp) (by simp; try rfl) (mod1 n k hk hk2) S

theorem few1 (zs : List Int) : den X E 9 [.sl (zs.map ic) .dead] [] = some (.bool (decide (zs.length ≤ 500)), []) := by
  refine den_w0 (fn := Tryz.f9) (by rfl) (by rfl) (by kernel_rfl) rfl (by rfl) ?_
  simp -implicitDefEqProofs
  (repeat (first | refine Wp.seq ?_ | refine Wp.block ?_ | refine Wp.skip ?_ | refine Wp.exit ?_ | refine Wp.ret ?_ | refine thenK_n ?_ | refine thenK_r ?_ | refine thenK_e ?_ | refine blockK_n ?_ | refine blockK_r ?_ | refine blockK_e ?_ | refine blockK_o (by decide) ?_ | (refine Wp.condT ?_ ?_; focus (simp -implicitDefEqProofs <;> fail)) | (refine Wp.condF ?_ ?_; focus (simp -implicitDefEqProofs <;> fail)) | refine Wp.reg (by simp -implicitDefEqProofs; exact ⟨rfl, rfl⟩) ?_ | refine Wp.regA (by simp -implicitDefEqProofs; exact ⟨rfl, rfl⟩) (by rfl) ?_))
  (apply endK_r; (focus (simp -implicitDefEqProofs [Tryz.f9]; try rfl)); (focus (intro g; simp -implicitDefEqProofs [Tryz.f9]; omega)); exact ⟨_, rfl⟩)
theorem few1_c (zs : List Int) (g : Nat) (S : St) (o1 : Own) : callT (X.at g) (den X E) S 9 [.sl (zs.map ic) o1] = some (.bool (decide (zs.length ≤ 500)), S) := by
  simpa using call_up (cf := X.at g) (fn := Tryz.f9) (args' := [.sl (zs.map ic) o1]) (by kernel_rfl) (by simp) (by simp; try rfl) (few1 zs) S

/-- The next choice, and where the deck then stands. -/
def nextP (zs : List Int) (i : Nat) (n : Int) : Int × Nat := match el zs i with
  | some z => (z % n, i + 1)
  | none => (0, i)
theorem el_lt {α : Type} {l : List α} {i : Nat} {a : α} (h : el l i = some a) : i < l.length := (List.getElem?_eq_some_iff.1 h).1
theorem el_ge {α : Type} {l : List α} {i : Nat} (h : el l i = none) : l.length ≤ i := List.getElem?_eq_none_iff.1 h
theorem nextP_le {zs : List Int} {i : Nat} (n : Int) (h : i ≤ zs.length) : (nextP zs i n).2 ≤ zs.length := by
  unfold nextP
  cases he : el zs i with
  | none => exact h
  | some z => exact el_lt he
theorem nextP_range (zs : List Int) (i : Nat) {n : Int} (hn : 1 ≤ n) : 0 ≤ (nextP zs i n).1 ∧ (nextP zs i n).1 < n := by
  unfold nextP
  cases he : el zs i with
  | none => exact ⟨Int.le_refl 0, by simp only; omega⟩
  | some z => exact ⟨Int.emod_nonneg _ (by omega), Int.emod_lt_of_pos _ (by omega)⟩
def deck (zs : List Int) (i : Nat) : List AV := [.sl (zs.map ic) .dead, .int .i64 i]
@[simp] theorem deck_eq (zs : List Int) (i : Nat) : deck zs i = [.sl (zs.map ic) .dead, .int .i64 i] := rfl

theorem next (zs : List Int) (i : Nat) (n : Int) (hn : 1 ≤ n) (hn2 : n ≤ 1000000) (hi : i ≤ zs.length) (hz : zs.length ≤ 1000000) :
    den X E 27 [.loc 0 0, .int .i64 n] [deck zs i] = some (.int .i64 (nextP zs i n).1, [deck zs (nextP zs i n).2]) := by
  have hn1 : ¬ n < 1 := by omega
  have hw : IntKind.i64.wrap ((i : Int) + 1) = i + 1 := IntWalk.i64_in _ (by omega)
  have hc := fun z => mod1_c (E := E) z n hn hn2
  unfold nextP
  cases he : el zs i with
  | none =>
    have hge : zs.length ≤ i := el_ge he
    simp only [deck]
    refine den_w (fn := Tryz.f27) (σ1 := [[.sl (zs.map ic) .dead, .int .i64 i]]) (by rfl) (by rfl) (by kernel_rfl) rfl (by rfl) (by rfl) (by simp -implicitDefEqProofs) ?_
    simp -implicitDefEqProofs
    (repeat (first | refine Wp.seq ?_ | refine Wp.block ?_ | refine Wp.skip ?_ | refine Wp.exit ?_ | refine Wp.ret ?_ | refine thenK_n ?_ | refine thenK_r ?_ | refine thenK_e ?_ | refine blockK_n ?_ | refine blockK_r ?_ | refine blockK_e ?_ | refine blockK_o (by decide) ?_ | (refine Wp.condT ?_ ?_; focus (simp -implicitDefEqProofs [hn1, hge] <;> fail)) | (refine Wp.condF ?_ ?_; focus (simp -implicitDefEqProofs [hn1, hge] <;> fail)) | refine Wp.reg (by simp -implicitDefEqProofs [hn1, hge]; exact ⟨rfl, rfl⟩) ?_ | refine Wp.regA (by simp -implicitDefEqProofs [hn1, hge]; exact ⟨rfl, rfl⟩) (by rfl) ?_))
    (apply endK_r; (focus (simp -implicitDefEqProofs [Tryz.f27]; try rfl)); (focus (intro g; simp -implicitDefEqProofs [Tryz.f27])); exact ⟨_, rfl⟩)
  | some z =>
    have hlt : ¬ zs.length ≤ i := by have := el_lt he; omega
    simp only [deck]
    refine den_w (fn := Tryz.f27) (σ1 := [[.sl (zs.map ic) .dead, .int .i64 (i + 1 : Nat)]]) (by rfl) (by rfl) (by kernel_rfl) rfl (by rfl) (by rfl) (by simp -implicitDefEqProofs) ?_
    simp -implicitDefEqProofs
    (repeat (first | refine Wp.seq ?_ | refine Wp.block ?_ | refine Wp.skip ?_ | refine Wp.exit ?_ | refine Wp.ret ?_ | refine thenK_n ?_ | refine thenK_r ?_ | refine thenK_e ?_ | refine blockK_n ?_ | refine blockK_r ?_ | refine blockK_e ?_ | refine blockK_o (by decide) ?_ | (refine Wp.condT ?_ ?_; focus (simp -implicitDefEqProofs [hn1, hlt, he, hw, hc] <;> fail)) | (refine Wp.condF ?_ ?_; focus (simp -implicitDefEqProofs [hn1, hlt, he, hw, hc] <;> fail)) | refine Wp.reg (by simp -implicitDefEqProofs [hn1, hlt, he, hw, hc]; exact ⟨rfl, rfl⟩) ?_ | refine Wp.regA (by simp -implicitDefEqProofs [hn1, hlt, he, hw, hc]; exact ⟨rfl, rfl⟩) (by rfl) ?_))
    (apply endK_r; (focus (simp -implicitDefEqProofs [Tryz.f27]; try rfl)); (focus (intro g; simp -implicitDefEqProofs [Tryz.f27])); exact ⟨_, rfl⟩)
theorem next_c (zs : List Int) (i : Nat) (n : Int) (hn : 1 ≤ n) (hn2 : n ≤ 1000000) (hi : i ≤ zs.length) (hz : zs.length ≤ 1000000) (g b : Nat) (S : St)  (hS : sd S.σ b = some [.sl (zs.map ic) .dead, .int .i64 i]) : callT (X.at g) (den X E) S 27 [.loc b 0, .int .i64 n] = some (.int .i64 (nextP zs i n).1, { S with σ := S.σ.set b [.sl (zs.map ic) .dead, .int .i64 (nextP zs i n).2] }) := by
  simpa using call_upD (cf := X.at g) (fn := Tryz.f27) (args' := [.int .i64 n]) (by kernel_rfl) rfl (by rfl) (by rfl) (by simp) (by simp; try rfl) (by simp) (by simp) (next zs i n hn hn2 hi hz) S hS

theorem new1 (zs : List Int) : den X E 10 [.sl (zs.map ic) .dead] [] = some (.loc 0 0, [deck zs 0]) := by
  refine den_mk (fn := Tryz.f10) (by rfl) (by rfl) (by kernel_rfl) rfl (by rfl) ?_
  simp
  (repeat (first | refine Wp.seq ?_ | refine Wp.block ?_ | refine Wp.skip ?_ | refine Wp.exit ?_ | refine Wp.ret ?_ | refine thenK_n ?_ | refine thenK_r ?_ | refine thenK_e ?_ | refine blockK_n ?_ | refine blockK_r ?_ | refine blockK_e ?_ | refine blockK_o (by decide) ?_ | (refine Wp.condT ?_ ?_; focus (simp -implicitDefEqProofs <;> fail)) | (refine Wp.condF ?_ ?_; focus (simp -implicitDefEqProofs <;> fail)) | refine Wp.reg (by simp -implicitDefEqProofs; exact ⟨rfl, rfl⟩) ?_ | refine Wp.regA (by simp -implicitDefEqProofs; exact ⟨rfl, rfl⟩) (by rfl) ?_))
  exact ⟨trivial, 0, rfl, _, rfl, by simp, by simp⟩

theorem new1_c (zs : List Int) (g : Nat) (S : St) : mkT (X.at g) (den X E) S 10 [.sl (zs.map ic) .dead] = some (.loc S.σ.length 0, { S with σ := S.σ ++ [[.sl (zs.map ic) .dead, .int .i64 0]] }) := by
  have hP : (X.at g).P.funcs[10]? = some Tryz.f10 := by kernel_rfl
  simp only [mkT, hP, Option.bind_some, hand_plain [.sl (zs.map ic) .dead] _ [] S.σ (by simp), List.isEmpty_nil, if_true, new1, deck_eq]
  rfl

/-- The type that a deck makes, and where the deck then stands. -/
def typeP (zs : List Int) : Nat → Nat → Ty × Nat
  | 0, i => let p := nextP zs i 7
    (if p.1 = 3 then .list else if p.1 = 4 then .unit else .nat, p.2)
  | d + 1, i => let p := nextP zs i 7
    if p.1 = 3 then (.list, p.2) else if p.1 = 4 then (.unit, p.2)
    else if p.1 = 5 then (let a := typeP zs d p.2; let b := typeP zs d a.2; (.pair a.1 b.1, b.2))
    else if p.1 = 6 then (let a := typeP zs d p.2; let b := typeP zs d a.2; (.fn a.1 b.1, b.2))
    else (.nat, p.2)
theorem typeP_le {zs : List Int} : ∀ (d : Nat) {i : Nat}, i ≤ zs.length → (typeP zs d i).2 ≤ zs.length
  | 0, i, h => nextP_le 7 h
  | d + 1, i, h => by
    have h1 := nextP_le 7 h
    simp only [typeP]
    split
    · exact h1
    split
    · exact h1
    split
    · exact typeP_le d (typeP_le d h1)
    split
    · exact typeP_le d (typeP_le d h1)
    · exact h1
theorem typeP_size (zs : List Int) : ∀ (d i : Nat), (typeP zs d i).1.size < 2 ^ (d + 1)
  | 0, i => by
    simp only [typeP]
    split
    · simp [Ty.size]
    split <;> simp [Ty.size]
  | d + 1, i => by
    have h1 := typeP_size zs d
    have hp : 2 ≤ 2 ^ (d + 1) := by rw [Nat.pow_succ]; have := Nat.one_le_two_pow (n := d); omega
    simp only [typeP]
    rw [Nat.pow_succ]
    split
    · simp [Ty.size]; omega
    split
    · simp [Ty.size]; omega
    split
    · simp only [Ty.size]; have := h1 (nextP zs i 7).2; have := h1 (typeP zs d (nextP zs i 7).2).2; omega
    split
    · simp only [Ty.size]; have := h1 (nextP zs i 7).2; have := h1 (typeP zs d (nextP zs i 7).2).2; omega
    · simp [Ty.size]; omega
end M
end Go.Proofs.YthclcchnodjjpaaGreatDoor
/- make.Type: types out of a deck. -/
set_option linter.unusedVariables false
set_option linter.unusedSimpArgs false
set_option maxRecDepth 10000
set_option maxHeartbeats 4000000
namespace Go.Proofs.YthclcchnodjjpaaGreatDoor
namespace M
attribute [local irreducible] Wp thenK blockK endK
variable {E : Oracle}
open T (Ty Tm)
theorem nextP_eq {zs : List Int} {i i1 : Nat} {n p : Int} (h : nextP zs i n = (p, i1)) (hn : 1 ≤ n) (hi : i ≤ zs.length) : 0 ≤ p ∧ p < n ∧ i1 ≤ zs.length := by
  have h1 := nextP_range zs i hn
  have h2 := nextP_le n hi
  rw [h] at h1 h2
  exact ⟨h1.1, h1.2, h2⟩
theorem pow_nodes {d : Nat} (hd : d ≤ 20) {s : Ty} (h : s.size < 2 ^ (d + 1)) : s.raw.nodes ≤ 1000000000 := by
  rw [Ty.raw_nodes]
  have : 2 ^ (d + 1) ≤ 2 ^ 21 := Nat.pow_le_pow_right (by decide) (by omega)
  omega
theorem typeP_nodes (zs : List Int) {d : Nat} (hd : d ≤ 20) (i : Nat) : (typeP zs d i).1.raw.nodes ≤ 1000000000 := pow_nodes hd (typeP_size zs d i)

theorem mkType (zs : List Int) (hz : zs.length ≤ 1000000) : ∀ (d i : Nat), d ≤ 20 → i ≤ zs.length →
    den X E 12 [.loc 0 0, .int .i64 d] [deck zs i] = some ((typeP zs d i).1.raw.enc, [deck zs (typeP zs d i).2]) := by
  intro d
  induction d with
  | zero =>
    intro i hd hi
    obtain ⟨p, i1, hp⟩ : ∃ p i1, nextP zs i 7 = (p, i1) := ⟨_, _, rfl⟩
    obtain ⟨h0, h7, hi1⟩ := nextP_eq hp (by decide) hi
    have c1 := fun g b S h => next_c (E := E) zs i 7 (by decide) (by decide) hi hz g b S h
    simp only [hp] at c1
    simp only [typeP, hp, deck_eq]
    refine den_w (fn := Tryz.f12) (σ1 := [[.sl (zs.map ic) .dead, .int .i64 i1]]) (by rfl) (by rfl) (by kernel_rfl) rfl (by rfl) (by rfl) (by simp -implicitDefEqProofs) ?_
    simp -implicitDefEqProofs
    obtain rfl | rfl | rfl | rfl | rfl | rfl | rfl : p = 0 ∨ p = 1 ∨ p = 2 ∨ p = 3 ∨ p = 4 ∨ p = 5 ∨ p = 6 := by omega
    all_goals
      (repeat (first | refine Wp.seq ?_ | refine Wp.block ?_ | refine Wp.skip ?_ | refine Wp.exit ?_ | refine Wp.ret ?_ | refine thenK_n ?_ | refine thenK_r ?_ | refine thenK_e ?_ | refine blockK_n ?_ | refine blockK_r ?_ | refine blockK_e ?_ | refine blockK_o (by decide) ?_ | (refine Wp.condT ?_ ?_; focus (simp -implicitDefEqProofs [c1, nat1_c, list1_c, unit1_c] <;> fail)) | (refine Wp.condF ?_ ?_; focus (simp -implicitDefEqProofs [c1, nat1_c, list1_c, unit1_c] <;> fail)) | refine Wp.reg (by simp -implicitDefEqProofs [c1, nat1_c, list1_c, unit1_c]; exact ⟨rfl, rfl⟩) ?_ | refine Wp.regA (by simp -implicitDefEqProofs [c1, nat1_c, list1_c, unit1_c]; exact ⟨rfl, rfl⟩) (by rfl) ?_))
      (apply endK_r; (focus (simp -implicitDefEqProofs [Tryz.f12, Ty.raw]; try rfl)); (focus (intro g; simp -implicitDefEqProofs [Tryz.f12, Ty.raw])); exact ⟨_, rfl⟩)
  | succ d ih =>
    intro i hd hi
    obtain ⟨p, i1, hp⟩ : ∃ p i1, nextP zs i 7 = (p, i1) := ⟨_, _, rfl⟩
    obtain ⟨h0, h7, hi1⟩ := nextP_eq hp (by decide) hi
    have c1 := fun g b S h => next_c (E := E) zs i 7 (by decide) (by decide) hi hz g b S h
    simp only [hp] at c1
    have hc : ∀ j, j ≤ zs.length → ∀ g b S, sd S.σ b = some (deck zs j) → callT (X.at g) (den X E) S 12 [.loc b 0, .int .i64 d] = some ((typeP zs d j).1.raw.enc, { S with σ := S.σ.set b (deck zs (typeP zs d j).2) }) := fun j hj g b S hS =>
      call_ref (cf := X.at g) (fn := Tryz.f12) (by kernel_rfl) rfl (by rfl) (by rfl) (by simp) (by simp) (by simp) (ih j (by omega) hj) S hS
    have hi2 := typeP_le (zs := zs) d hi1
    have k1 := hc i1 hi1
    have k2 := hc _ hi2
    simp at k1 k2
    have hw : IntKind.i64.wrap (d : Int) = d := IntWalk.i64_in _ (by omega)
    have hpos : (0 : Int) < (d : Int) + 1 := by omega
    have n1 := typeP_nodes zs (d := d) (by omega) i1
    have n2 := typeP_nodes zs (d := d) (by omega) (typeP zs d i1).2
    have c5 := two1_c (E := E) (k := (typeP zs d i1).1.raw.k) (ts := (typeP zs d i1).1.raw.as) (m := (typeP zs d (typeP zs d i1).2).1.raw.k) (us := (typeP zs d (typeP zs d i1).2).1.raw.as) (by simpa using n1) (by simpa using n2)
    have c6 := fun1_c (E := E) (k := (typeP zs d i1).1.raw.k) (ts := (typeP zs d i1).1.raw.as) (m := (typeP zs d (typeP zs d i1).2).1.raw.k) (us := (typeP zs d (typeP zs d i1).2).1.raw.as) (by simpa using n1) (by simpa using n2)
    simp only [typeP, hp]
    obtain rfl | rfl | rfl | rfl | rfl | rfl | rfl : p = 0 ∨ p = 1 ∨ p = 2 ∨ p = 3 ∨ p = 4 ∨ p = 5 ∨ p = 6 := by omega
    all_goals
      simp
      refine den_w (fn := Tryz.f12) (by rfl) (by rfl) (by kernel_rfl) rfl (by rfl) (by rfl) (by simp) ?_
      simp
      (repeat (first | refine Wp.seq ?_ | refine Wp.block ?_ | refine Wp.skip ?_ | refine Wp.exit ?_ | refine Wp.ret ?_ | refine thenK_n ?_ | refine thenK_r ?_ | refine thenK_e ?_ | refine blockK_n ?_ | refine blockK_r ?_ | refine blockK_e ?_ | refine blockK_o (by decide) ?_ | (refine Wp.condT ?_ ?_; focus (simp -implicitDefEqProofs [c1, nat1_c, list1_c, unit1_c, k1, k2, hw, hpos, c5, c6] <;> fail)) | (refine Wp.condF ?_ ?_; focus (simp -implicitDefEqProofs [c1, nat1_c, list1_c, unit1_c, k1, k2, hw, hpos, c5, c6] <;> fail)) | refine Wp.reg (by simp -implicitDefEqProofs [c1, nat1_c, list1_c, unit1_c, k1, k2, hw, hpos, c5, c6]; exact ⟨rfl, rfl⟩) ?_ | refine Wp.regA (by simp -implicitDefEqProofs [c1, nat1_c, list1_c, unit1_c, k1, k2, hw, hpos, c5, c6]; exact ⟨rfl, rfl⟩) (by rfl) ?_))
      (apply endK_r; (focus (simp -implicitDefEqProofs [Tryz.f12, Ty.raw]; try rfl)); (focus (intro g; simp -implicitDefEqProofs [Tryz.f12, Ty.raw])); exact ⟨_, rfl⟩)
theorem mkType_c (zs : List Int) (hz : zs.length ≤ 1000000) (d i : Nat) (hd : d ≤ 20) (hi : i ≤ zs.length) (g b : Nat) (S : St)  (hS : sd S.σ b = some [.sl (zs.map ic) .dead, .int .i64 i]) : callT (X.at g) (den X E) S 12 [.loc b 0, .int .i64 d] = some (.agg [.int .i64 (typeP zs d i).1.raw.k, .sl (List.map RT.cells (typeP zs d i).1.raw.as) .dead], { S with σ := S.σ.set b [.sl (zs.map ic) .dead, .int .i64 (typeP zs d i).2] }) := by
  simpa using call_upD (cf := X.at g) (fn := Tryz.f12) (args' := [.int .i64 d]) (by kernel_rfl) rfl (by rfl) (by rfl) (by simp) (by simp; try rfl) (by simp) (by simp) (mkType zs hz d i hd hi) S hS
end M
end Go.Proofs.YthclcchnodjjpaaGreatDoor
/- types.level, Level, Size; tree.Fun, types.Function. -/
set_option linter.unusedVariables false
set_option linter.unusedSimpArgs false
set_option maxRecDepth 10000
set_option maxHeartbeats 4000000
namespace Go.Proofs.YthclcchnodjjpaaGreatDoor
namespace M
attribute [local irreducible] Wp thenK blockK endK
variable {E : Oracle}
open T (Ty Tm)

/-- The type of a function of some arguments. -/
def RT.fun (l : List RT) (t : RT) : RT := l.foldr (fun a r => .mk 4 [a, r]) t
end M
end Go.Proofs.YthclcchnodjjpaaGreatDoor
/- types.Function. -/
set_option linter.unusedVariables false
set_option linter.unusedSimpArgs false
set_option maxRecDepth 10000
set_option maxHeartbeats 4000000
namespace Go.Proofs.YthclcchnodjjpaaGreatDoor
namespace M
attribute [local irreducible] Wp thenK blockK endK
variable {E : Oracle}
open T (Ty Tm)
/-- The first error of some types. -/
def firstErr : List RT → Int
  | [] => 0
  | a :: l => if a.err ≠ 0 then a.err else firstErr l
theorem firstErr_app {l m : List RT} (h : firstErr l = 0) : firstErr (l ++ m) = firstErr m := by
  induction l with
  | nil => rfl
  | cons a l ih =>
    simp only [firstErr] at h
    split at h
    · rename_i hn; exact absurd h hn
    · rename_i hn; simp only [List.cons_append, firstErr, if_neg hn, ih h]
def totalNodes (l : List RT) : Nat := (l.map RT.nodes).sum
/-- The type of a function with checks, or the error. -/
def funR (l : List RT) (t : RT) : RT × Int :=
  if firstErr (l ++ [t]) ≠ 0 then (.mk 0 [], firstErr (l ++ [t]))
  else if totalNodes (l ++ [t]) + l.length > 64 then (.mk 0 [], 4) else (RT.fun l t, 0)
theorem RT.fun_nodes (l : List RT) (t : RT) : (RT.fun l t).nodes = totalNodes l + l.length + t.nodes := by
  induction l with
  | nil => simp [RT.fun, totalNodes]
  | cons a l ih =>
    have : (RT.fun (a :: l) t).nodes = 1 + (a.nodes + (RT.fun l t).nodes) := by simp [RT.fun, RT.nodes_mk]
    rw [this, ih]
    simp [totalNodes]
    omega
end M
end Go.Proofs.YthclcchnodjjpaaGreatDoor
