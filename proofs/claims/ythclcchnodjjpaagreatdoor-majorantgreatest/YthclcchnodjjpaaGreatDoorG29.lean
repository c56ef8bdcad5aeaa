/- A part of the proof: Mc20. -/
import Derived.Test.YthclcchnodjjpaaGreatDoorG09
import Derived.Below
/- FROM T TO A ROW's WALK: what T says of a law is what the program does, and nothing old is written. -/
set_option linter.unusedVariables false
namespace Go.Proofs.YthclcchnodjjpaaGreatDoor
namespace M
open Go.RowKit

/-- The empty ghost. -/
def G0 : Gh := ⟨[], [], []⟩

/-- The package variables, as a world has them in which nothing is ours. -/
def GlobW (w : World) : Prop := ∀ e ∈ globs, ∀ j, j < e.2.length → ∃ u, w.cell? ⟨e.1, j, none⟩ = some u ∧ VR G0 w (e.2.getD j .undef) u ∧ u.oneCell' = true
theorem glob0 {w : World} (h : GlobW w) : Glb G0 w := fun e he => by
  obtain ⟨g, cs⟩ := e
  have h' : ∀ j, j < cs.length → ∃ u, w.cell? ⟨g, j, none⟩ = some u ∧ VR G0 w (cs.getD j .undef) u ∧ u.oneCell' = true := h (g, cs) he
  refine .rp (fun j => if hj : j < cs.length then (h' j hj).choose else Go.undef) (fun j hj => ?_) (fun j hj => ?_)
  · rw [dif_pos hj]
    obtain ⟨h1, h2, h3⟩ := (h' j hj).choose_spec
    have ha : (⟨g, 0, none⟩ : Addr).add j = ⟨g, j, none⟩ := by
      simp only [Addr.add]
      by_cases hj0 : j = 0
      · subst hj0; simp
      · simp; omega
    rw [ha]
    exact ⟨h1, ⟨block_lt_of_cell h1, by simp [G0], fun e he => by simp [G0] at he, fun e he => by simp [G0] at he⟩, h3⟩
  · rw [dif_pos hj]
    obtain ⟨h1, h2, h3⟩ := (h' j hj).choose_spec
    simpa [List.getD, hj] using h2

theorem sr0 {w : World} (hg : GlobW w) : SR G0 ⟨[], []⟩ w where
  gl := glob0 hg
  len := rfl
  blk := fun i cs h => by simp at h
  nd := fun i j b h => by simp [G0] at h
  tk := rfl
  tnd := fun i j v b k v' k' h => by simp [G0] at h
  dis := fun e he => by simp [G0] at he
  tlt := fun e he => by simp [G0] at he
  llt := fun b hb => by simp [G0] at hb
  od := fun e he => by simp [G0] at he

theorem mv_below {w w' : World} (h : Mv G0 w G0 w') : Below w.heap.size w w' :=
  ⟨h.os, h.tape, h.output, h.size, fun k hk => h.blk k hk (by simp [G0]) (fun e he => by simp [G0] at he)⟩

/-- A law, by T. -/
theorem walk_of {cx : Cx} (ok : CxOk cx) (hb : BodiesOk cx) {E : Oracle} (he : CSound cx E) {f : Nat} {args : List AV} {vs : Array Value} {w : World} {b : Bool} (hm : cx.mkf f = false) (h : den cx E f args [] = some (.bool b, [])) (hgl : GlobW w) (hv : VRs G0 w args vs.toList) :
    Calls cx.P f vs w fun e w' => e = .returned (.bool b) ∧ Below w.heap.size w w' := by
  obtain ⟨_, _, hp⟩ := den_sound ok hb he f args [] _ _ h (by simp)
  obtain ⟨_, _, _, prom⟩ := hp hm
  refine (prom G0 w vs rfl (sr0 hgl) hv).mono fun e w' hr => ?_
  cases e with
  | returned u =>
    obtain ⟨h1, _, h3⟩ := hr
    cases h1
    exact ⟨rfl, mv_below h3⟩
  | panicked c => exact hr.elim
  | outgrown => exact hr.elim

/-- A slice of numbers as T gets it. -/
def ints (k : IntKind) (zs : List Int) : AV := .sl (zs.map fun n => [.int k n]) .dead

theorem ints_rel {k : IntKind} {w : World} {A : Option Addr} {len cap : Nat} {zs : List Int} (hc : zs.length ≤ cap) (hl : len = zs.length) (h : ∀ i, i < zs.length → ∃ a, A = some a ∧ w.cell? (a.add i) = some (.int k (zs.getD i 0))) : VR G0 w (ints k zs) (.slice A len cap) := by
  subst hl
  unfold ints
  have e : zs.length = (zs.map fun n => [AV.int k n]).length := by simp
  rw [e]
  refine .sl (sz := 1) (fun i j => .int k (zs.getD i 0)) (by simpa using hc) (fun i hi => by simp) (fun i j hi hj => ?_) (fun i hi j hj => ?_) trivial
  · have hi' : i < zs.length := by simpa using hi
    obtain ⟨a, ha, hcell⟩ := h i hi'
    have hj0 : j = 0 := by omega
    subst hj0
    refine ⟨a, ha, by simpa using hcell, ⟨?_, by simp [G0], fun e he => by simp [G0] at he, fun e he => by simp [G0] at he⟩, rfl⟩
    simpa using block_lt_of_cell hcell
  · have hi' : i < zs.length := by simpa using hi
    have hj0 : j = 0 := by simp at hj; omega
    subst hj0
    simp only [List.getElem_map, List.getElem_cons_zero]
    have : zs.getD i 0 = zs[i] := by simp [List.getD, hi']
    rw [this]
    exact .int

end M
end Go.Proofs.YthclcchnodjjpaaGreatDoor
