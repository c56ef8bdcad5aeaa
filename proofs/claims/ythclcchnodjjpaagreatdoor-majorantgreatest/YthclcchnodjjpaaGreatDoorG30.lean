/- A part of the proof: Glu. -/
import Derived.Test.YthclcchnodjjpaaGreatDoorG11
import Derived.Test.YthclcchnodjjpaaGreatDoorG29
import Derived.Test.YthclcchnodjjpaaGreatDoorRows
import Derived.WalkKit
import Derived.ProofKit
import Derived.OpenShut
import Derived.ShutString
import Derived.ChangeOld
import Derived.Below
import Derived.LaidMore
import Derived.Stop.Joined
/- From the row's condition on the package variable (tree.arities) to what T asks; a law that took one list of numbers. -/
set_option linter.unusedVariables false
namespace Go.Proofs.YthclcchnodjjpaaGreatDoor
open Go.ChangeShapes Go.WideShapes Go.ChangeAt Go.RowKit
open Go.ChangeMaps (open_string shut_string)

theorem own : ownKnob Tryz.prog.godebug = none := by kernel_rfl
theorem laidOut : laidOutB Tryz.prog = true := by kernel_rfl
theorem gAr : Tryz.prog.globalNamed "proofprograms/tree.arities" = some 0 := by kernel_rfl
theorem tAr : (Tryz.prog.globals[0]?).map (·.type) = some 126 := by kernel_rfl
abbrev laidL : List (String × DataW Unit) := [("proofprograms/tree.arities", Rows.laid_proofprograms_tree_arities)]
theorem door_met (os : Os) (args : Array Value) : laidMetH Tryz.prog laidL ((World.doorLaid Tryz.prog 400 os).forCall (fun _ _ => 0) ⟨#[], args, []⟩).memory :=
  laidMetH_of_parts3 (fuel := 8) (laidMet_of_run' 8 (by kernel_rfl) (by kernel_rfl)) (by kernel_rfl) (by kernel_rfl)
theorem glob_of_laid {W : World} (h : laidMetH Tryz.prog laidL W) : Go.Proofs.YthclcchnodjjpaaGreatDoor.M.GlobW W := by
  rw [MakeChecks.laidMetH_plain _ _ _ (by kernel_rfl)] at h
  obtain ⟨ps, ⟨g0, t0, cs0, f0, p0, q0, hg0, ht0, hv0, hd0, _, _⟩, _, _⟩ := h
  obtain rfl := Option.some.inj (gAr.symm.trans hg0)
  obtain rfl := Option.some.inj (tAr.symm.trans ht0)
  obtain ⟨xs, m1, rfl, hx1, hlen, hn, hel⟩ := DataW.trod_array Tryz.underlying126 hd0
  have c3 : Tryz.prog.cellsOf 3 = 1 := by kernel_rfl
  have hl : xs.map (·.1) = [.lit (.int .i64 0), .lit (.int .i64 0), .lit (.int .i64 1), .lit (.int .i64 2), .lit (.int .i64 0), .lit (.int .i64 1), .lit (.int .i64 3), .lit (.int .i64 0), .lit (.int .i64 2), .lit (.int .i64 3), .lit (.int .i64 2), .lit (.int .i64 1), .lit (.int .i64 1), .lit (.int .i64 0)] := by
    simp only [Prod.mk.injEq] at hx1
    have := hx1.1
    simp only [Rows.laid_proofprograms_tree_arities, DataW.agg.injEq] at this
    exact this.symm
  intro e he
  have he' : e = (0, [.int .i64 0, .int .i64 0, .int .i64 1, .int .i64 2, .int .i64 0, .int .i64 1, .int .i64 3, .int .i64 0, .int .i64 2, .int .i64 3, .int .i64 2, .int .i64 1, .int .i64 1, .int .i64 0]) := by simpa [Go.Proofs.YthclcchnodjjpaaGreatDoor.M.globs] using he
  subst he'
  intro j hj
  have hj' : j < 14 := by simpa using hj
  have h0 := hel j hj'
  have hx : xs[j]? = some (xs[j]'(by omega)) := List.getElem?_eq_getElem _
  rw [hx, c3] at h0
  obtain ⟨k, e1, e2, _⟩ := DataW.trod_int Tryz.underlying3 h0
  have hdat : (xs.map (·.1))[j]? = some (.lit (.int .i64 k)) := by rw [List.getElem?_map, hx, e2]; rfl
  rw [hl] at hdat
  have hcell : W.cell? ⟨0, j, none⟩ = some (.int .i64 k) := by
    rw [World.var?_cell hg0 hv0 j]
    have h1 : (cs0.toList.drop (j * 1)).head? = some (.int .i64 k) := by
      have := congrArg List.head? e1
      rw [List.head?_take] at this
      simpa using this
    rw [Nat.mul_one, List.head?_drop] at h1
    simpa using h1
  refine ⟨_, hcell, ?_, rfl⟩
  have h14 : j = 0 ∨ j = 1 ∨ j = 2 ∨ j = 3 ∨ j = 4 ∨ j = 5 ∨ j = 6 ∨ j = 7 ∨ j = 8 ∨ j = 9 ∨ j = 10 ∨ j = 11 ∨ j = 12 ∨ j = 13 := by omega
  rcases h14 with rfl | rfl | rfl | rfl | rfl | rfl | rfl | rfl | rfl | rfl | rfl | rfl | rfl | rfl <;> (simp at hdat; subst hdat; exact .int)

/-- A slice of numbers that came in. -/
def IsRow (k : IntKind) (w : World) (a : Option Addr) (len cap : Nat) (zs : List Int) : Prop :=
  (a = none ∧ len = 0 ∧ cap = 0 ∧ zs = []) ∨
  ∃ x, a = some x ∧ len ≤ cap ∧ cap ≤ maxLen ∧ zs.length = cap ∧ (∀ i, i < zs.length → w.cell? (x.add i) = some (.int k (zs.getD i 0))) ∧ ∀ n ∈ zs, (Lit.int k n).wf = true

open Go.Proofs.YthclcchnodjjpaaGreatDoor.M in
theorem row_rel {k : IntKind} {w : World} {A : Option Addr} {len cap : Nat} {zs : List Int} (h : IsRow k w A len cap zs) : VR G0 w (ints k (zs.take len)) (.slice A len cap) := by
  rcases h with ⟨rfl, rfl, rfl, rfl⟩ | ⟨x, rfl, hl, hm, hz, hcell, hwz⟩
  · exact ints_rel (by simp) (by simp) (fun i hi => by simp at hi)
  · refine ints_rel (by simp; omega) (by simp; omega) (fun i hi => ⟨x, rfl, ?_⟩)
    simp at hi
    rw [hcell i (by omega)]
    simp [List.getD, show i < len by omega]

/-- One list of numbers came in; E answers for the functions that T does not take. -/
theorem lifted_of {f : Nat} {E : Go.Proofs.YthclcchnodjjpaaGreatDoor.M.Oracle} (hE : Go.Proofs.YthclcchnodjjpaaGreatDoor.M.CSound Go.Proofs.YthclcchnodjjpaaGreatDoor.M.X E) (hm : Go.Proofs.YthclcchnodjjpaaGreatDoor.M.X.mkf f = false)
    (h : ∀ zs : List Int, Go.Proofs.YthclcchnodjjpaaGreatDoor.M.den Go.Proofs.YthclcchnodjjpaaGreatDoor.M.X E f [Go.Proofs.YthclcchnodjjpaaGreatDoor.M.ints .i64 zs] [] = some (.bool true, [])) (a0 : Option Addr) (len0 cap0 : Nat) (z0 : List Int) (w : World) (hg : Go.Proofs.YthclcchnodjjpaaGreatDoor.M.GlobW w) (w0 : IsRow .i64 w a0 len0 cap0 z0) :
    Calls Tryz.prog f #[.slice a0 len0 cap0] w fun e w' => e = .returned (.bool true) ∧ Below w.heap.size w w' :=
  Go.Proofs.YthclcchnodjjpaaGreatDoor.M.walk_of (cx := Go.Proofs.YthclcchnodjjpaaGreatDoor.M.X) Go.Proofs.YthclcchnodjjpaaGreatDoor.M.X_ok Go.Proofs.YthclcchnodjjpaaGreatDoor.M.X_bodies hE hm (h _) hg (.cons (row_rel w0) (.nil _ _))
end Go.Proofs.YthclcchnodjjpaaGreatDoor
