/- Written by gen.lean: what the semantics asks of this program. -/
import Derived.Test.YtgkdehfbeejlfaaRw
import Derived.Test.YtgkdehfbeejlfaaProg
namespace Go.Proofs.Ytgkdehfbeejlfaa
namespace M
def rfL : List Nat := [25]
def ttL : List Nat := [0, 1, 23, 24, 25, 26, 30, 33, 35, 37, 39, 40, 41, 42, 43, 44, 46, 47, 48, 49, 52, 53, 54, 55, 56, 57, 58, 60, 61, 63, 64, 65, 71, 75]
def imL : List Nat := []
/- not for T by themselves: [(14, (proofprograms/types.Data, [rangeFunc]))] -/
def extL : List Nat := [14]
def mkL : List Nat := [8]
def ltF : Nat → Nat → List (Nat × Nat)
  | 5, 7 => [(0, 4), (1, 4)]
  | 17, 4 => [(3, 10)]
  | 17, 7 => [(9, 12)]
  | _, _ => []
def cxOf (P : Program) : Cx := { P := P, ty := tyOf P, rf := fun t => rfL.contains t, tt := fun t => ttL.contains t, im := fun t => imL.contains t, lt := ltF, lz := fun _ => [], ext := fun f => extL.contains f, mkf := fun f => mkL.contains f }
set_option maxRecDepth 100000
theorem cx_ok : CxOk (cxOf Try.prog) := ⟨fun t ti h => tyOf_ok h, by kernel_rfl⟩
theorem bodies_all : ((List.range 67).all fun f => (cxOf Try.prog).ext f || match (Try.prog.funcs[f]?).bind (·.body) with | some c => codeOk ((cxOf Try.prog).at f) c | none => true) = true := by kernel_rfl
theorem bodies_size : Try.prog.funcs.size = 67 := by kernel_rfl
theorem bodies_ok : BodiesOk (cxOf Try.prog) := fun f fn c hx hf hc => by
  have hlt : f < (cxOf _).P.funcs.size := (Array.getElem?_eq_some_iff.1 hf).1
  have h := List.all_eq_true.1 bodies_all f (List.mem_range.2 (by rw [← bodies_size]; exact hlt))
  rw [hx, Bool.false_or] at h
  have hf' : Try.prog.funcs[f]? = some fn := hf
  rw [hf', Option.bind_some, hc] at h
  exact h
noncomputable def X : Cx := cxOf Try.prog
theorem X_ok : CxOk X := cx_ok
theorem X_bodies : BodiesOk X := bodies_ok
@[simp] theorem X_rf (t : Nat) : X.rf t = rfL.contains t := rfl
@[simp] theorem X_tt (t : Nat) : X.tt t = ttL.contains t := rfl
@[simp] theorem X_im (t : Nat) : X.im t = imL.contains t := rfl
@[simp] theorem X_mkf (t : Nat) : X.mkf t = mkL.contains t := rfl
@[simp] theorem X_ext (t : Nat) : X.ext t = extL.contains t := rfl
@[simp] theorem X_lt : X.lt = ltF := rfl
attribute [simp] rfL ttL imL mkL extL
@[simp] theorem X_ty2 : X.ty 2 = some ⟨1, 8, [.int .i64 0], .atom⟩ := by kernel_rfl
@[simp] theorem X_ty3 : X.ty 3 = some ⟨1, 8, [.int .i64 0], .atom⟩ := by kernel_rfl
@[simp] theorem X_ty4 : X.ty 4 = some ⟨1, 1, [.bool false], .atom⟩ := by kernel_rfl
@[simp] theorem X_ty5 : X.ty 5 = some ⟨1, 1, [.int .u8 0], .atom⟩ := by kernel_rfl
@[simp] theorem X_ty6 : X.ty 6 = some ⟨1, 1, [.int .u8 0], .atom⟩ := by kernel_rfl
@[simp] theorem X_ty7 : X.ty 7 = some ⟨4, 24, [.int .i64 0, .int .i64 0, .bool false, .int .u8 0], .struct [(0, 2), (1, 3), (2, 4), (3, 6)]⟩ := by kernel_rfl
@[simp] theorem X_ty8 : X.ty 8 = some ⟨4, 24, [.int .i64 0, .int .i64 0, .bool false, .int .u8 0], .struct [(0, 2), (1, 3), (2, 4), (3, 6)]⟩ := by kernel_rfl
@[simp] theorem X_ty12 : X.ty 12 = some ⟨1, 8, [.int .u64 0], .atom⟩ := by kernel_rfl
@[simp] theorem X_ty15 : X.ty 15 = some ⟨1, 8, [.nilp], .ptr⟩ := by kernel_rfl
@[simp] theorem X_ty16 : X.ty 16 = some ⟨1, 8, [.nilp], .ptr⟩ := by kernel_rfl
@[simp] theorem X_ty17 : X.ty 17 = some ⟨1, 8, [.nilp], .ptr⟩ := by kernel_rfl
@[simp] theorem X_ty18 : X.ty 18 = some ⟨1, 8, [.nilp], .struct [(0, 17)]⟩ := by kernel_rfl
@[simp] theorem X_ty19 : X.ty 19 = some ⟨1, 8, [.nilp], .struct [(0, 17)]⟩ := by kernel_rfl
@[simp] theorem X_ty20 : X.ty 20 = some ⟨1, 16, [.nili], .iface⟩ := by kernel_rfl
@[simp] theorem X_ty21 : X.ty 21 = some ⟨1, 4, [.int .i32 0], .atom⟩ := by kernel_rfl
@[simp] theorem X_ty22 : X.ty 22 = some ⟨1, 24, [.sl [] .full], .slice 3⟩ := by kernel_rfl
@[simp] theorem X_ty25 : X.ty 25 = some ⟨1, 8, [.nilp], .ptr⟩ := by kernel_rfl
@[simp] theorem X_ty27 : X.ty 27 = some ⟨1, 24, [.sl [] .full], .slice 29⟩ := by kernel_rfl
@[simp] theorem X_ty28 : X.ty 28 = some ⟨2, 32, [.int .i64 0, .sl [] .full], .struct [(0, 3), (1, 27)]⟩ := by kernel_rfl
@[simp] theorem X_ty29 : X.ty 29 = some ⟨2, 32, [.int .i64 0, .sl [] .full], .struct [(0, 3), (1, 27)]⟩ := by kernel_rfl
@[simp] theorem X_ty31 : X.ty 31 = some ⟨1, 8, [.int .i64 0], .atom⟩ := by kernel_rfl
@[simp] theorem X_ty45 : X.ty 45 = some ⟨1, 24, [.sl [] .full], .slice 27⟩ := by kernel_rfl
@[simp] theorem X_ty50 : X.ty 50 = some ⟨2, 32, [.sl [] .full, .int .i64 0], .struct [(0, 22), (1, 3)]⟩ := by kernel_rfl
@[simp] theorem X_ty51 : X.ty 51 = some ⟨2, 32, [.sl [] .full, .int .i64 0], .struct [(0, 22), (1, 3)]⟩ := by kernel_rfl
@[simp] theorem X_ty59 : X.ty 59 = some ⟨1, 8, [.nilp], .ptr⟩ := by kernel_rfl
@[simp] theorem X_ty68 : X.ty 68 = some ⟨0, 0, [], .arr 0 16⟩ := by kernel_rfl
@[simp] theorem X_ty69 : X.ty 69 = some ⟨0, 0, [], .struct [(0, 68)]⟩ := by kernel_rfl
@[simp] theorem X_ty70 : X.ty 70 = some ⟨0, 0, [], .struct [(0, 68)]⟩ := by kernel_rfl
@[simp] theorem X_ty72 : X.ty 72 = some ⟨1, 4, [.int .u32 0], .atom⟩ := by kernel_rfl
@[simp] theorem X_ty73 : X.ty 73 = some ⟨1, 1, [.int .u8 0], .atom⟩ := by kernel_rfl
@[simp] theorem X_ty74 : X.ty 74 = some ⟨1, 1, [.int .u8 0], .atom⟩ := by kernel_rfl
@[simp] theorem X_ty76 : X.ty 76 = some ⟨1, 8, [.nilp], .ptr⟩ := by kernel_rfl
@[simp] theorem X_ty77 : X.ty 77 = some ⟨1, 4, [.int .i32 0], .atom⟩ := by kernel_rfl
@[simp] theorem X_ty78 : X.ty 78 = some ⟨1, 4, [.int .i32 0], .atom⟩ := by kernel_rfl
@[simp] theorem X_ty79 : X.ty 79 = some ⟨11, 48, [.int .u64 0, .int .u64 0, .int .u32 0, .int .u8 0, .int .u8 0, .int .u8 0, .int .u8 0, .nilf, .nilp, .int .i32 0, .int .i32 0], .struct [(0, 12), (1, 12), (2, 72), (3, 73), (4, 5), (5, 5), (6, 74), (7, 75), (8, 76), (9, 77), (10, 78)]⟩ := by kernel_rfl
@[simp] theorem X_ty80 : X.ty 80 = some ⟨11, 48, [.int .u64 0, .int .u64 0, .int .u32 0, .int .u8 0, .int .u8 0, .int .u8 0, .int .u8 0, .nilf, .nilp, .int .i32 0, .int .i32 0], .struct [(0, 12), (1, 12), (2, 72), (3, 73), (4, 5), (5, 5), (6, 74), (7, 75), (8, 76), (9, 77), (10, 78)]⟩ := by kernel_rfl
@[simp] theorem X_ty81 : X.ty 81 = some ⟨1, 8, [.nilp], .atom⟩ := by kernel_rfl
end M
end Go.Proofs.Ytgkdehfbeejlfaa
