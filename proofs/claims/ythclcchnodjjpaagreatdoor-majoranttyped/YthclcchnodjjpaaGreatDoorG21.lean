/- A part of the proof: LwB, Mc20, Glu. -/
import Derived.Test.YthclcchnodjjpaaGreatDoorG20
import Derived.Test.YthclcchnodjjpaaGreatDoorG07
import Derived.Below
import Derived.Test.YthclcchnodjjpaaGreatDoorG08
import Derived.Test.YthclcchnodjjpaaGreatDoorRows
import Derived.WalkKit
import Derived.ProofKit
import Derived.OpenShut
import Derived.ShutString
import Derived.ChangeOld
import Derived.LaidMore
import Derived.Stop.Joined
/- law33.MajorantTyped. -/
set_option linter.unusedVariables false
set_option linter.unusedSimpArgs false
set_option maxRecDepth 10000
set_option maxHeartbeats 4000000
namespace Go.Proofs.YthclcchnodjjpaaGreatDoor
namespace M
attribute [local irreducible] Wp thenK blockK endK
variable {E : Oracle}
open T (V Ty Tm noTy Ans Res evM callV VT VB Env tyR resT resE)
attribute [local simp] noTy
theorem termP_facts {zs : List Int} {d i j : Nat} {t : Ty} {g : List Ty} {x : Tm} (h : termP zs d t g i = (x, j)) (hd : d ≤ 4) (ht : t.size ≤ 64) (hg : ∀ s ∈ g, s.size ≤ 64) (hl : g.length ≤ 100) (hi : i ≤ zs.length) :
    j ≤ zs.length ∧ x.small = true ∧ x.size ≤ 30000 ∧ (∃ b : Nat, 3 ≤ b ∧ b ≤ 268435456 ∧ x.idx b = true) ∧ ∃ e, T.Sem g.reverse x t e := by
  have h1 := termP_small zs d t g i hi
  have h2 := termP_ty zs d t g i
  rw [h] at h1 h2
  obtain ⟨h3, h4⟩ := h1
  obtain ⟨h5, h6⟩ := h4 ht hg
  have h7 : 3 ^ d ≤ 3 ^ 4 := Nat.pow_le_pow_right (by decide) hd
  have h8 : (3 : Nat) ^ 4 = 81 := rfl
  obtain ⟨e, he⟩ := h2
  have h9 := he.idx
  refine ⟨h3, h5, by simp only at h6; omega, ⟨g.length + x.size + 3, by omega, by simp only at h6; omega, T.Tm.idx_mono (by simp) x h9⟩, e, he⟩
theorem majorantTyped (zs : List Int) : den X E 3 [.sl (zs.map ic) .dead] [] = some (.bool true, []) := by
  by_cases hf : zs.length ≤ 500
  rotate_left
  · have c1 := few1_c (E := E) zs
    simp [hf] at c1
    refine den_w0 (fn := Tryz.f3) (by rfl) (by rfl) (by kernel_rfl) rfl (by rfl) ?_
    simp -implicitDefEqProofs
    (repeat (first | refine Wp.seq ?_ | refine Wp.block ?_ | refine Wp.skip ?_ | refine Wp.exit ?_ | refine Wp.ret ?_ | refine thenK_n ?_ | refine thenK_r ?_ | refine thenK_e ?_ | refine blockK_n ?_ | refine blockK_r ?_ | refine blockK_e ?_ | refine blockK_o (by decide) ?_ | (refine Wp.condT ?_ ?_; focus (simp -implicitDefEqProofs [awake33_c, c1] <;> fail)) | (refine Wp.condF ?_ ?_; focus (simp -implicitDefEqProofs [awake33_c, c1] <;> fail)) | refine Wp.reg (by simp -implicitDefEqProofs [awake33_c, c1]; exact ⟨rfl, rfl⟩) ?_ | refine Wp.regA (by simp -implicitDefEqProofs [awake33_c, c1]; exact ⟨rfl, rfl⟩) (by rfl) ?_))
    (apply endK_r; (focus (simp -implicitDefEqProofs [Tryz.f3]; try rfl)); (focus (intro g; simp -implicitDefEqProofs [Tryz.f3])); exact ⟨_, rfl⟩)
  have c1 := few1_c (E := E) zs
  simp [hf] at c1
  have c2 := new1_c (E := E) zs
  have hz : zs.length ≤ 1000000 := by omega
  have c3 := mkContext_c (E := E) zs hz 0 (Nat.zero_le _)
  have hi1 := contextP_le (zs := zs) (i := 0) (Nat.zero_le _)
  have hgl := contextP_len zs 0
  have hgs := contextP_size zs 0
  revert c3 hi1 hgl hgs
  generalize contextP zs 0 = pg
  obtain ⟨g, i1⟩ := pg
  intro c3 hi1 hgl hgs
  simp only at c3 hi1 hgl hgs
  have hg64 : ∀ s ∈ g, s.size ≤ 64 := fun s hs => by have := hgs s hs; omega
  have c4 := mkType_c (E := E) zs hz 1 i1 (by decide) hi1
  have hi2 := typeP_le (zs := zs) 1 hi1
  have hts := typeP_size zs 1 i1
  revert c4 hi2 hts
  generalize typeP zs 1 i1 = pt
  obtain ⟨t, i2⟩ := pt
  intro c4 hi2 hts
  simp only at c4 hi2 hts
  have ht64 : t.size ≤ 64 := by omega
  have c5 := mkTerm_c (E := E) zs hz 3 i2 t g (by decide) ht64 (by omega) hg64 hi2
  obtain ⟨x, i3, hx⟩ : ∃ x i3, termP zs 3 t g i2 = (x, i3) := ⟨_, _, rfl⟩
  obtain ⟨hi3, hxs, hxz, ⟨b, hb3, hb, hxi⟩, dx, hsem⟩ := termP_facts hx (by decide) ht64 hg64 (by omega) hi2
  rw [hx] at c5
  simp only at c5
  have c6 := mjTermR_c (E := E) hb3 hb (by omega) hxs hxi
  simp at c3 c4 c5
  rcases mjRes_or x with ⟨hm, hx4, hst⟩ | hm
  rotate_left
  · rw [hm] at c6
    simp at c6
    refine den_w0 (fn := Tryz.f3) (by rfl) (by rfl) (by kernel_rfl) rfl (by rfl) ?_
    simp -implicitDefEqProofs
    (repeat (first | refine Wp.seq ?_ | refine Wp.block ?_ | refine Wp.skip ?_ | refine Wp.exit ?_ | refine Wp.ret ?_ | refine thenK_n ?_ | refine thenK_r ?_ | refine thenK_e ?_ | refine blockK_n ?_ | refine blockK_r ?_ | refine blockK_e ?_ | refine blockK_o (by decide) ?_ | (refine Wp.condT ?_ ?_; focus (simp -implicitDefEqProofs [awake33_c, c1, c2, c3, c4, c5, c6] <;> fail)) | (refine Wp.condF ?_ ?_; focus (simp -implicitDefEqProofs [awake33_c, c1, c2, c3, c4, c5, c6] <;> fail)) | refine Wp.reg (by simp -implicitDefEqProofs [awake33_c, c1, c2, c3, c4, c5, c6]; exact ⟨rfl, rfl⟩) ?_ | refine Wp.regA (by simp -implicitDefEqProofs [awake33_c, c1, c2, c3, c4, c5, c6]; exact ⟨rfl, rfl⟩) (by rfl) ?_))
    (apply endK_r; (focus (simp -implicitDefEqProofs [Tryz.f3]; try rfl)); (focus (intro g; simp -implicitDefEqProofs [Tryz.f3])); exact ⟨_, rfl⟩)
  rw [hm] at c6
  simp at c6
  have c7 : ∀ s ∈ g, ∀ (g : Nat) (S : St) (o1 : Own), callT (X.at g) (den X E) S 15 [.agg [.int .i64 s.raw.k, .sl (List.map RT.cells s.raw.as) o1]] = some (.tup [.agg [.int .i64 s.star.raw.k, .sl (List.map RT.cells s.star.raw.as) .dead], .int .i64 0], S) := fun s hs g S o1 => mjType_c (hg64 s hs) g S o1
  have c8 := mjType_c (E := E) (s := t) ht64
  have hcomp : (RT.cells ∘ Ty.raw) ∘ Ty.star = RT.cells ∘ Ty.raw ∘ Ty.star := rfl
  have hsst := T.Tm.star_small x hxs
  obtain ⟨d', hst', _⟩ := hsem.star
  have hrev : (g.map Ty.star).reverse = g.reverse.map Ty.star := by simp
  have c9 := typeOf2_c (E := E) (t := x.star) (G := g.map Ty.star) hst (by simp; omega) hsst (by intro s hs; obtain ⟨u, hu, rfl⟩ := List.mem_map.1 hs; rw [Ty.star_size]; exact hg64 u hu)
  rw [hrev] at c9
  have c10 := sameTy_c (E := E) (s := t.star) (u := t.star) (by rw [Ty.star_size]; omega)
  simp at c10
  refine den_w0 (fn := Tryz.f3) (by rfl) (by rfl) (by kernel_rfl) rfl (by rfl) ?_
  simp -implicitDefEqProofs
  (repeat (first | refine Wp.seq ?_ | refine Wp.block ?_ | refine Wp.skip ?_ | refine Wp.exit ?_ | refine Wp.ret ?_ | refine thenK_n ?_ | refine thenK_r ?_ | refine thenK_e ?_ | refine blockK_n ?_ | refine blockK_r ?_ | refine blockK_e ?_ | refine blockK_o (by decide) ?_ | (refine Wp.condT ?_ ?_; focus (simp -implicitDefEqProofs [awake33_c, c1, c2, c3, c4, c5, c6] <;> fail)) | (refine Wp.condF ?_ ?_; focus (simp -implicitDefEqProofs [awake33_c, c1, c2, c3, c4, c5, c6] <;> fail)) | refine Wp.reg (by simp -implicitDefEqProofs [awake33_c, c1, c2, c3, c4, c5, c6]; exact ⟨rfl, rfl⟩) ?_ | refine Wp.regA (by simp -implicitDefEqProofs [awake33_c, c1, c2, c3, c4, c5, c6]; exact ⟨rfl, rfl⟩) (by rfl) ?_))
  refine Wp.loopF [2, 8, 10, 11, 12, 45, 46, 47, 48, 49, 50, 51, 52, 53, 54, 55, 56, 57, 58, 59, 60] [] (fun n w c tk => ∃ done rest o, g = done ++ rest ∧ n = rest.length ∧ w 45 = .int .i64 done.length ∧ w 8 = .sl (List.map (RT.cells ∘ Ty.raw ∘ Ty.star) done) o ∧ Can tk (List.map (RT.cells ∘ Ty.raw ∘ Ty.star) done) o) (g.length) ?_ ?_ ?_ ?_
  · rfl
  · rfl
  · exact ⟨[], g, .full, by simp, rfl, rfl, rfl, trivial⟩
  rintro n w c junk tk r σ ⟨done, rest, o, hl, rfl, h45, h8, hcan⟩ hr hσ
  simp -implicitDefEqProofs [h45, h8] at hr hσ
  subst hr hσ
  rcases rest with _ | ⟨a, rest⟩
  rotate_left
  · have ha : el g done.length = some a := by simp [hl]
    have hlt : done.length < g.length := by simp [hl]
    have hmem : a ∈ g := by simp [hl]
    have hw : IntKind.i64.wrap ((done.length : Int) + 1) = done.length + 1 := IntWalk.i64_in _ (by omega)
    have hia := c7 a hmem
    obtain ⟨o', tk', happ, hcan'⟩ := can_app hcan 2 (by decide) (by simp) (by simp; omega)
    (repeat (first | refine Wp.seq ?_ | refine Wp.block ?_ | refine Wp.skip ?_ | refine Wp.exit ?_ | refine Wp.ret ?_ | refine thenK_n ?_ | refine thenK_r ?_ | refine thenK_e ?_ | refine blockK_n ?_ | refine blockK_r ?_ | refine blockK_e ?_ | refine blockK_o (by decide) ?_ | (refine Wp.condT ?_ ?_; focus (simp -implicitDefEqProofs [ha, hlt, hw, hia, happ] <;> fail)) | (refine Wp.condF ?_ ?_; focus (simp -implicitDefEqProofs [ha, hlt, hw, hia, happ] <;> fail)) | refine Wp.reg (by simp -implicitDefEqProofs [ha, hlt, hw, hia, happ]; exact ⟨rfl, rfl⟩) ?_ | refine Wp.regA (by simp -implicitDefEqProofs [ha, hlt, hw, hia, happ]; exact ⟨rfl, rfl⟩) (by rfl) ?_))
    refine ⟨by simp, ⟨_, by simp -implicitDefEqProofs; rfl⟩, rest.length, by simp, done ++ [a], rest, o', by simp [hl], rfl, by simp, by simp, by simpa using hcan' _⟩
  simp at hl
  subst hl
  rcases res_raw hst'.tyR with ⟨e1, e2, e3⟩ | ⟨e1, e2, e3⟩
  · rw [e2, e3] at c9
    simp [List.map_map, hcomp] at c9
    (repeat (first | refine Wp.seq ?_ | refine Wp.block ?_ | refine Wp.skip ?_ | refine Wp.exit ?_ | refine Wp.ret ?_ | refine thenK_n ?_ | refine thenK_r ?_ | refine thenK_e ?_ | refine blockK_n ?_ | refine blockK_r ?_ | refine blockK_e ?_ | refine blockK_o (by decide) ?_ | (refine Wp.condT ?_ ?_; focus (simp -implicitDefEqProofs [c8, c9, c10] <;> fail)) | (refine Wp.condF ?_ ?_; focus (simp -implicitDefEqProofs [c8, c9, c10] <;> fail)) | refine Wp.reg (by simp -implicitDefEqProofs [c8, c9, c10]; exact ⟨rfl, rfl⟩) ?_ | refine Wp.regA (by simp -implicitDefEqProofs [c8, c9, c10]; exact ⟨rfl, rfl⟩) (by rfl) ?_))
    (apply endK_r; (focus (simp -implicitDefEqProofs [Tryz.f3]; try rfl)); (focus (intro g; simp -implicitDefEqProofs [Tryz.f3])); exact ⟨_, rfl⟩)
  · rw [e2, e3] at c9
    simp [List.map_map, hcomp] at c9
    (repeat (first | refine Wp.seq ?_ | refine Wp.block ?_ | refine Wp.skip ?_ | refine Wp.exit ?_ | refine Wp.ret ?_ | refine thenK_n ?_ | refine thenK_r ?_ | refine thenK_e ?_ | refine blockK_n ?_ | refine blockK_r ?_ | refine blockK_e ?_ | refine blockK_o (by decide) ?_ | (refine Wp.condT ?_ ?_; focus (simp -implicitDefEqProofs [c8, c9, c10] <;> fail)) | (refine Wp.condF ?_ ?_; focus (simp -implicitDefEqProofs [c8, c9, c10] <;> fail)) | refine Wp.reg (by simp -implicitDefEqProofs [c8, c9, c10]; exact ⟨rfl, rfl⟩) ?_ | refine Wp.regA (by simp -implicitDefEqProofs [c8, c9, c10]; exact ⟨rfl, rfl⟩) (by rfl) ?_))
    (apply endK_r; (focus (simp -implicitDefEqProofs [Tryz.f3]; try rfl)); (focus (intro g; simp -implicitDefEqProofs [Tryz.f3])); exact ⟨_, rfl⟩)
end M
end Go.Proofs.YthclcchnodjjpaaGreatDoor
/- FROM T TO A ROW's WALK: what T says of a law is what the program does, and nothing old is written. -/
set_option linter.unusedVariables false
namespace Go.Proofs.YthclcchnodjjpaaGreatDoor
namespace M
open Go.RowKit

/-- The empty ghost. -/
def G0 : Gh := ⟨[], [], []⟩

/-- The package variables, as a world has them in which nothing is ours. -/
def GlobW (w : World) : Prop := ∀ e ∈ globs, ∀ j, j < e.2.length → ∃ u, w.cell? ⟨e.1, j, none⟩ = some u ∧ VR G0 w (e.2.getD j .undef) u ∧ u.oneCell' = true
theorem glob0 {w : World} (h : GlobW w) : Glb G0 w := fun e he => by
  obtain ⟨g, cs⟩ := e
  have h' : ∀ j, j < cs.length → ∃ u, w.cell? ⟨g, j, none⟩ = some u ∧ VR G0 w (cs.getD j .undef) u ∧ u.oneCell' = true := h (g, cs) he
  refine .rp (fun j => if hj : j < cs.length then (h' j hj).choose else Go.undef) (fun j hj => ?_) (fun j hj => ?_)
  · rw [dif_pos hj]
    obtain ⟨h1, h2, h3⟩ := (h' j hj).choose_spec
    have ha : (⟨g, 0, none⟩ : Addr).add j = ⟨g, j, none⟩ := by
      simp only [Addr.add]
      by_cases hj0 : j = 0
      · subst hj0; simp
      · simp; omega
    rw [ha]
    exact ⟨h1, ⟨block_lt_of_cell h1, by simp [G0], fun e he => by simp [G0] at he, fun e he => by simp [G0] at he⟩, h3⟩
  · rw [dif_pos hj]
    obtain ⟨h1, h2, h3⟩ := (h' j hj).choose_spec
    simpa [List.getD, hj] using h2

theorem sr0 {w : World} (hg : GlobW w) : SR G0 ⟨[], []⟩ w where
  gl := glob0 hg
  len := rfl
  blk := fun i cs h => by simp at h
  nd := fun i j b h => by simp [G0] at h
  tk := rfl
  tnd := fun i j v b k v' k' h => by simp [G0] at h
  dis := fun e he => by simp [G0] at he
  tlt := fun e he => by simp [G0] at he
  llt := fun b hb => by simp [G0] at hb
  od := fun e he => by simp [G0] at he

theorem mv_below {w w' : World} (h : Mv G0 w G0 w') : Below w.heap.size w w' :=
  ⟨h.os, h.tape, h.output, h.size, fun k hk => h.blk k hk (by simp [G0]) (fun e he => by simp [G0] at he)⟩

/-- A law, by T. -/
theorem walk_of {cx : Cx} (ok : CxOk cx) (hb : BodiesOk cx) {E : Oracle} (he : CSound cx E) {f : Nat} {args : List AV} {vs : Array Value} {w : World} {b : Bool} (hm : cx.mkf f = false) (h : den cx E f args [] = some (.bool b, [])) (hgl : GlobW w) (hv : VRs G0 w args vs.toList) :
    Calls cx.P f vs w fun e w' => e = .returned (.bool b) ∧ Below w.heap.size w w' := by
  obtain ⟨_, _, hp⟩ := den_sound ok hb he f args [] _ _ h (by simp)
  obtain ⟨_, _, _, prom⟩ := hp hm
  refine (prom G0 w vs rfl (sr0 hgl) hv).mono fun e w' hr => ?_
  cases e with
  | returned u =>
    obtain ⟨h1, _, h3⟩ := hr
    cases h1
    exact ⟨rfl, mv_below h3⟩
  | panicked c => exact hr.elim
  | outgrown => exact hr.elim

/-- A slice of numbers as T gets it. -/
def ints (k : IntKind) (zs : List Int) : AV := .sl (zs.map fun n => [.int k n]) .dead

theorem ints_rel {k : IntKind} {w : World} {A : Option Addr} {len cap : Nat} {zs : List Int} (hc : zs.length ≤ cap) (hl : len = zs.length) (h : ∀ i, i < zs.length → ∃ a, A = some a ∧ w.cell? (a.add i) = some (.int k (zs.getD i 0))) : VR G0 w (ints k zs) (.slice A len cap) := by
  subst hl
  unfold ints
  have e : zs.length = (zs.map fun n => [AV.int k n]).length := by simp
  rw [e]
  refine .sl (sz := 1) (fun i j => .int k (zs.getD i 0)) (by simpa using hc) (fun i hi => by simp) (fun i j hi hj => ?_) (fun i hi j hj => ?_) trivial
  · have hi' : i < zs.length := by simpa using hi
    obtain ⟨a, ha, hcell⟩ := h i hi'
    have hj0 : j = 0 := by omega
    subst hj0
    refine ⟨a, ha, by simpa using hcell, ⟨?_, by simp [G0], fun e he => by simp [G0] at he, fun e he => by simp [G0] at he⟩, rfl⟩
    simpa using block_lt_of_cell hcell
  · have hi' : i < zs.length := by simpa using hi
    have hj0 : j = 0 := by simp at hj; omega
    subst hj0
    simp only [List.getElem_map, List.getElem_cons_zero]
    have : zs.getD i 0 = zs[i] := by simp [List.getD, hi']
    rw [this]
    exact .int

end M
end Go.Proofs.YthclcchnodjjpaaGreatDoor
/- From the row's condition on the package variable (tree.arities) to what T asks; a law that took one list of numbers. -/
set_option linter.unusedVariables false
namespace Go.Proofs.YthclcchnodjjpaaGreatDoor
open Go.ChangeShapes Go.WideShapes Go.ChangeAt Go.RowKit
open Go.ChangeMaps (open_string shut_string)

theorem own : ownKnob Tryz.prog.godebug = none := by kernel_rfl
theorem laidOut : laidOutB Tryz.prog = true := by kernel_rfl
theorem gAr : Tryz.prog.globalNamed "proofprograms/tree.arities" = some 0 := by kernel_rfl
theorem tAr : (Tryz.prog.globals[0]?).map (·.type) = some 126 := by kernel_rfl
abbrev laidL : List (String × DataW Unit) := [("proofprograms/tree.arities", Rows.laid_proofprograms_tree_arities)]
theorem door_met (os : Os) (args : Array Value) : laidMetH Tryz.prog laidL ((World.doorLaid Tryz.prog 400 os).forCall (fun _ _ => 0) ⟨#[], args, []⟩).memory :=
  laidMetH_of_parts3 (fuel := 8) (laidMet_of_run' 8 (by kernel_rfl) (by kernel_rfl)) (by kernel_rfl) (by kernel_rfl)
theorem glob_of_laid {W : World} (h : laidMetH Tryz.prog laidL W) : Go.Proofs.YthclcchnodjjpaaGreatDoor.M.GlobW W := by
  rw [MakeChecks.laidMetH_plain _ _ _ (by kernel_rfl)] at h
  obtain ⟨ps, ⟨g0, t0, cs0, f0, p0, q0, hg0, ht0, hv0, hd0, _, _⟩, _, _⟩ := h
  obtain rfl := Option.some.inj (gAr.symm.trans hg0)
  obtain rfl := Option.some.inj (tAr.symm.trans ht0)
  obtain ⟨xs, m1, rfl, hx1, hlen, hn, hel⟩ := DataW.trod_array Tryz.underlying126 hd0
  have c3 : Tryz.prog.cellsOf 3 = 1 := by kernel_rfl
  have hl : xs.map (·.1) = [.lit (.int .i64 0), .lit (.int .i64 0), .lit (.int .i64 1), .lit (.int .i64 2), .lit (.int .i64 0), .lit (.int .i64 1), .lit (.int .i64 3), .lit (.int .i64 0), .lit (.int .i64 2), .lit (.int .i64 3), .lit (.int .i64 2), .lit (.int .i64 1), .lit (.int .i64 1), .lit (.int .i64 0)] := by
    simp only [Prod.mk.injEq] at hx1
    have := hx1.1
    simp only [Rows.laid_proofprograms_tree_arities, DataW.agg.injEq] at this
    exact this.symm
  intro e he
  have he' : e = (0, [.int .i64 0, .int .i64 0, .int .i64 1, .int .i64 2, .int .i64 0, .int .i64 1, .int .i64 3, .int .i64 0, .int .i64 2, .int .i64 3, .int .i64 2, .int .i64 1, .int .i64 1, .int .i64 0]) := by simpa [Go.Proofs.YthclcchnodjjpaaGreatDoor.M.globs] using he
  subst he'
  intro j hj
  have hj' : j < 14 := by simpa using hj
  have h0 := hel j hj'
  have hx : xs[j]? = some (xs[j]'(by omega)) := List.getElem?_eq_getElem _
  rw [hx, c3] at h0
  obtain ⟨k, e1, e2, _⟩ := DataW.trod_int Tryz.underlying3 h0
  have hdat : (xs.map (·.1))[j]? = some (.lit (.int .i64 k)) := by rw [List.getElem?_map, hx, e2]; rfl
  rw [hl] at hdat
  have hcell : W.cell? ⟨0, j, none⟩ = some (.int .i64 k) := by
    rw [World.var?_cell hg0 hv0 j]
    have h1 : (cs0.toList.drop (j * 1)).head? = some (.int .i64 k) := by
      have := congrArg List.head? e1
      rw [List.head?_take] at this
      simpa using this
    rw [Nat.mul_one, List.head?_drop] at h1
    simpa using h1
  refine ⟨_, hcell, ?_, rfl⟩
  have h14 : j = 0 ∨ j = 1 ∨ j = 2 ∨ j = 3 ∨ j = 4 ∨ j = 5 ∨ j = 6 ∨ j = 7 ∨ j = 8 ∨ j = 9 ∨ j = 10 ∨ j = 11 ∨ j = 12 ∨ j = 13 := by omega
  rcases h14 with rfl | rfl | rfl | rfl | rfl | rfl | rfl | rfl | rfl | rfl | rfl | rfl | rfl | rfl <;> (simp at hdat; subst hdat; exact .int)

/-- A slice of numbers that came in. -/
def IsRow (k : IntKind) (w : World) (a : Option Addr) (len cap : Nat) (zs : List Int) : Prop :=
  (a = none ∧ len = 0 ∧ cap = 0 ∧ zs = []) ∨
  ∃ x, a = some x ∧ len ≤ cap ∧ cap ≤ maxLen ∧ zs.length = cap ∧ (∀ i, i < zs.length → w.cell? (x.add i) = some (.int k (zs.getD i 0))) ∧ ∀ n ∈ zs, (Lit.int k n).wf = true

open Go.Proofs.YthclcchnodjjpaaGreatDoor.M in
theorem row_rel {k : IntKind} {w : World} {A : Option Addr} {len cap : Nat} {zs : List Int} (h : IsRow k w A len cap zs) : VR G0 w (ints k (zs.take len)) (.slice A len cap) := by
  rcases h with ⟨rfl, rfl, rfl, rfl⟩ | ⟨x, rfl, hl, hm, hz, hcell, hwz⟩
  · exact ints_rel (by simp) (by simp) (fun i hi => by simp at hi)
  · refine ints_rel (by simp; omega) (by simp; omega) (fun i hi => ⟨x, rfl, ?_⟩)
    simp at hi
    rw [hcell i (by omega)]
    simp [List.getD, show i < len by omega]

/-- One list of numbers came in; E answers for the functions that T does not take. -/
theorem lifted_of {f : Nat} {E : Go.Proofs.YthclcchnodjjpaaGreatDoor.M.Oracle} (hE : Go.Proofs.YthclcchnodjjpaaGreatDoor.M.CSound Go.Proofs.YthclcchnodjjpaaGreatDoor.M.X E) (hm : Go.Proofs.YthclcchnodjjpaaGreatDoor.M.X.mkf f = false)
    (h : ∀ zs : List Int, Go.Proofs.YthclcchnodjjpaaGreatDoor.M.den Go.Proofs.YthclcchnodjjpaaGreatDoor.M.X E f [Go.Proofs.YthclcchnodjjpaaGreatDoor.M.ints .i64 zs] [] = some (.bool true, [])) (a0 : Option Addr) (len0 cap0 : Nat) (z0 : List Int) (w : World) (hg : Go.Proofs.YthclcchnodjjpaaGreatDoor.M.GlobW w) (w0 : IsRow .i64 w a0 len0 cap0 z0) :
    Calls Tryz.prog f #[.slice a0 len0 cap0] w fun e w' => e = .returned (.bool true) ∧ Below w.heap.size w w' :=
  Go.Proofs.YthclcchnodjjpaaGreatDoor.M.walk_of (cx := Go.Proofs.YthclcchnodjjpaaGreatDoor.M.X) Go.Proofs.YthclcchnodjjpaaGreatDoor.M.X_ok Go.Proofs.YthclcchnodjjpaaGreatDoor.M.X_bodies hE hm (h _) hg (.cons (row_rel w0) (.nil _ _))
end Go.Proofs.YthclcchnodjjpaaGreatDoor
