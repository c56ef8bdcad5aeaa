/- A part of the proof: MjC, MjD. -/
import Derived.Test.YthclcchnodjjpaaGreatDoorG17
import Derived.Test.YthclcchnodjjpaaGreatDoorG18
/- The maker of majorants: of, run, majorant.Term. -/
set_option linter.unusedVariables false
set_option linter.unusedSimpArgs false
set_option maxRecDepth 10000
set_option maxHeartbeats 4000000
namespace Go.Proofs.YthclcchnodjjpaaGreatDoor
namespace M
attribute [local irreducible] Wp thenK blockK endK
variable {E : Oracle}
open T (Ty Tm noTy)
attribute [local simp] noTy
theorem mjOf (b : Nat) (hb : 3 ≤ b) (hb2 : b ≤ 400000000) : ∀ (n : Nat) (t : Tm), t.size ≤ n → n ≤ 4096 → t.small = true → t.idx b = true →
    den X E 48 [.loc 0 0, t.raw.enc] [[.int .i64 0]] = some ((ofM t).1.enc, [[.int .i64 (ofM t).2]]) := by
  intro n
  induction n with
  | zero => intro t ht; have := t.size_pos; omega
  | succ n ih =>
  intro t ht hn hs hi
  have ihc : ∀ a ∈ t.kids, ∀ (g b : Nat) (S : St) (o1 o2 : Own), sd S.σ b = some [.int .i64 0] → callT (X.at g) (den X E) S 48 [.loc b 0, .agg [.int .i64 a.raw.k, .int .i64 a.raw.i, .int .i64 a.raw.ty.k, .sl (List.map RT.cells a.raw.ty.as) o1, .sl (List.map RM.cells a.raw.as) o2]] = some (.agg [.int .i64 (ofM a).1.k, .int .i64 (ofM a).1.i, .int .i64 (ofM a).1.ty.k, .sl (List.map RT.cells (ofM a).1.ty.as) .dead, .sl (List.map RM.cells (ofM a).1.as) .dead], { S with σ := S.σ.set b [.int .i64 (ofM a).2] }) := by
    intros
    rename_i hS
    simpa using call_upD (cf := X.at _) (fn := Tryz.f48) (args' := [_]) (by kernel_rfl) rfl (by rfl) (by rfl) (by simp) (by simp; try rfl) (by simp) (by simp) (ih _ (by have := Tm.kids_size (t := t) (by assumption); omega) (by omega) (Tm.kids_small (t := t) (by assumption) hs) (Tm.kids_idx (t := t) (by assumption) hi)) _ hS
  have hlen := t.kids_len
  have has := t.raw_as
  have hgood : ∀ a ∈ t.kids, (ofM a).1.good (b + 70 * 4096) := fun a ha => (good_of b hb a.size a (Nat.le_refl _) (Tm.kids_small ha hs) (Tm.kids_idx ha hi)).mono (by have := Tm.kids_size ha; omega)
  obtain ⟨K, hK⟩ : ∃ K, K = t.kids := ⟨_, rfl⟩
  rw [← hK] at ihc hlen has hgood
  have hofeq := ofM_eq t
  rw [← hK] at hofeq
  have hbad : ∀ a ∈ K, ¬ (ofM a).2 = 0 → ofM t = (zeroM, 4) ∧ (ofM a).2 = 4 := by
    intro a ha h0
    refine ⟨?_, (ofM_err a).resolve_left h0⟩
    rw [hofeq]
    unfold allM
    rw [if_neg]
    simp only [List.all_map, List.all_eq_true, Function.comp, beq_iff_eq]
    exact fun h => h0 (h a ha)
  have hfin : (∀ a ∈ K, (ofM a).2 = 0) → ofM t = combM t (K.map fun a => (ofM a).1) := by
    intro h
    rw [hofeq]
    unfold allM
    rw [if_pos (by simp only [List.all_map, List.all_eq_true, Function.comp, beq_iff_eq]; exact h)]
    simp
    rfl
  simp only [RM.enc_eq, has]
  obtain ⟨x0, σ0, hx0, hσ0⟩ : ∃ x0 σ0, x0 = RM.enc (ofM t).1 ∧ σ0 = [[AV.int .i64 (ofM t).2]] := ⟨_, _, rfl, rfl⟩
  rw [show (some (AV.agg [AV.int IntKind.i64 (ofM t).fst.k, AV.int IntKind.i64 (ofM t).fst.i, AV.int IntKind.i64 (ofM t).fst.ty.k, AV.sl (List.map RT.cells (ofM t).fst.ty.as) Own.dead, AV.sl (List.map RM.cells (ofM t).fst.as) Own.dead], [[AV.int IntKind.i64 (ofM t).snd]]) : Option (AV × List (List AV))) = some (x0, σ0) by rw [hx0, hσ0, RM.enc_eq]]
  refine den_w (fn := Tryz.f48) (σ1 := σ0) (by rfl) (by rfl) (by kernel_rfl) rfl (by rfl) (by rw [hσ0]; rfl) (by rw [hσ0]; simp) ?_
  simp
  (repeat (first | refine Wp.seq ?_ | refine Wp.block ?_ | refine Wp.skip ?_ | refine Wp.exit ?_ | refine Wp.ret ?_ | refine thenK_n ?_ | refine thenK_r ?_ | refine thenK_e ?_ | refine blockK_n ?_ | refine blockK_r ?_ | refine blockK_e ?_ | refine blockK_o (by decide) ?_ | (refine Wp.condT ?_ ?_; focus (simp -implicitDefEqProofs <;> fail)) | (refine Wp.condF ?_ ?_; focus (simp -implicitDefEqProofs <;> fail)) | refine Wp.reg (by simp -implicitDefEqProofs; exact ⟨rfl, rfl⟩) ?_ | refine Wp.regA (by simp -implicitDefEqProofs; exact ⟨rfl, rfl⟩) (by rfl) ?_))
  refine Wp.loopF [5, 7, 8, 18, 19, 20, 21, 22, 23, 24, 25, 26, 27, 28, 29, 30, 31, 32, 33, 34, 35] [0] (fun n w c tk => ∃ done rest o, K = done ++ rest ∧ n = rest.length ∧ w 18 = .int .i64 done.length ∧ w 5 = .sl (List.map (RM.cells ∘ fun a => (ofM a).1) done) o ∧ c 0 = [.int .i64 0] ∧ (∀ a ∈ done, (ofM a).2 = 0) ∧ Can tk (List.map (RM.cells ∘ fun a => (ofM a).1) done) o) (K.length) ?_ ?_ ?_ ?_
  · rfl
  · rfl
  · exact ⟨[], K, .full, by simp, rfl, rfl, rfl, rfl, by simp, trivial⟩
  rintro n w c junk tk r σ ⟨done, rest, o, hl, rfl, h18, h5, h0, hdone, hcan⟩ hr hσ
  simp -implicitDefEqProofs [h18, h5, h0] at hr hσ
  subst hr hσ
  rcases rest with _ | ⟨a, rest⟩
  rotate_left
  · have ha : el K done.length = some a := by simp [hl]
    have hlt : done.length < K.length := by simp [hl]
    have hmem : a ∈ K := by simp [hl]
    have hw : IntKind.i64.wrap ((done.length : Int) + 1) = done.length + 1 := IntWalk.i64_in _ (by omega)
    have hia := ihc a hmem
    by_cases he : (ofM a).2 = 0
    · obtain ⟨o', tk', happ, hcan'⟩ := can_app hcan 5 (by decide) (by simp) (by simp; omega)
      simp only [he] at hia
      (repeat (first | refine Wp.seq ?_ | refine Wp.block ?_ | refine Wp.skip ?_ | refine Wp.exit ?_ | refine Wp.ret ?_ | refine thenK_n ?_ | refine thenK_r ?_ | refine thenK_e ?_ | refine blockK_n ?_ | refine blockK_r ?_ | refine blockK_e ?_ | refine blockK_o (by decide) ?_ | (refine Wp.condT ?_ ?_; focus (simp -implicitDefEqProofs [ha, hlt, hw, happ, hia] <;> fail)) | (refine Wp.condF ?_ ?_; focus (simp -implicitDefEqProofs [ha, hlt, hw, happ, hia] <;> fail)) | refine Wp.reg (by simp -implicitDefEqProofs [ha, hlt, hw, happ, hia]; exact ⟨rfl, rfl⟩) ?_ | refine Wp.regA (by simp -implicitDefEqProofs [ha, hlt, hw, happ, hia]; exact ⟨rfl, rfl⟩) (by rfl) ?_))
      refine ⟨by simp, ⟨_, by simp -implicitDefEqProofs; rfl⟩, rest.length, by simp, done ++ [a], rest, o', by simp [hl], rfl, by simp, by simp, by simp, by simp; exact fun x hx => hx.elim (hdone x) (fun e => e ▸ he), by simpa using hcan' _⟩
    · obtain ⟨hb1, hb2⟩ := hbad a hmem he
      rw [hb1] at hx0 hσ0
      simp only [hb2] at hia
      subst hx0 hσ0
      (repeat (first | refine Wp.seq ?_ | refine Wp.block ?_ | refine Wp.skip ?_ | refine Wp.exit ?_ | refine Wp.ret ?_ | refine thenK_n ?_ | refine thenK_r ?_ | refine thenK_e ?_ | refine blockK_n ?_ | refine blockK_r ?_ | refine blockK_e ?_ | refine blockK_o (by decide) ?_ | (refine Wp.condT ?_ ?_; focus (simp -implicitDefEqProofs [ha, hlt, hw, hia] <;> fail)) | (refine Wp.condF ?_ ?_; focus (simp -implicitDefEqProofs [ha, hlt, hw, hia] <;> fail)) | refine Wp.reg (by simp -implicitDefEqProofs [ha, hlt, hw, hia]; exact ⟨rfl, rfl⟩) ?_ | refine Wp.regA (by simp -implicitDefEqProofs [ha, hlt, hw, hia]; exact ⟨rfl, rfl⟩) (by rfl) ?_))
      (apply endK_r; (focus (simp -implicitDefEqProofs [Tryz.f48, zeroM]; try rfl)); (focus (intro g; simp -implicitDefEqProofs [Tryz.f48, zeroM])); exact ⟨_, rfl⟩)
  simp at hl
  subst hl
  have hcomb := hfin hdone
  rw [hcomb] at hx0 hσ0
  have hgd : ∀ a ∈ K, ((ofM a).1).good (b + 70 * 4096) := hgood
  clear ih ihc hbad hfin hofeq hgood hdone hcan h18 h5 h0
  have hty := Tm.small_ty hs
  subst hK
  cases t with
  | var i =>
    simp only [combM, Tm.kids, List.map_nil] at hx0 hσ0
    subst hx0 hσ0
    simp [Tm.raw, Tm.kids]
    (repeat (first | refine Wp.seq ?_ | refine Wp.block ?_ | refine Wp.skip ?_ | refine Wp.exit ?_ | refine Wp.ret ?_ | refine thenK_n ?_ | refine thenK_r ?_ | refine thenK_e ?_ | refine blockK_n ?_ | refine blockK_r ?_ | refine blockK_e ?_ | refine blockK_o (by decide) ?_ | (refine Wp.condT ?_ ?_; focus (simp -implicitDefEqProofs <;> fail)) | (refine Wp.condF ?_ ?_; focus (simp -implicitDefEqProofs <;> fail)) | refine Wp.reg (by simp -implicitDefEqProofs; exact ⟨rfl, rfl⟩) ?_ | refine Wp.regA (by simp -implicitDefEqProofs; exact ⟨rfl, rfl⟩) (by rfl) ?_))
    (apply endK_r; (focus (simp -implicitDefEqProofs [Tryz.f48, varM]; try rfl)); (focus (intro g; simp -implicitDefEqProofs [Tryz.f48, varM])); exact ⟨_, rfl⟩)
  | nil =>
    simp only [combM, Tm.kids, List.map_nil] at hx0 hσ0
    subst hx0 hσ0
    simp [Tm.raw, Tm.kids]
    (repeat (first | refine Wp.seq ?_ | refine Wp.block ?_ | refine Wp.skip ?_ | refine Wp.exit ?_ | refine Wp.ret ?_ | refine thenK_n ?_ | refine thenK_r ?_ | refine thenK_e ?_ | refine blockK_n ?_ | refine blockK_r ?_ | refine blockK_e ?_ | refine blockK_o (by decide) ?_ | (refine Wp.condT ?_ ?_; focus (simp -implicitDefEqProofs <;> fail)) | (refine Wp.condF ?_ ?_; focus (simp -implicitDefEqProofs <;> fail)) | refine Wp.reg (by simp -implicitDefEqProofs; exact ⟨rfl, rfl⟩) ?_ | refine Wp.regA (by simp -implicitDefEqProofs; exact ⟨rfl, rfl⟩) (by rfl) ?_))
    (apply endK_r; (focus (simp -implicitDefEqProofs [Tryz.f48]; try rfl)); (focus (intro g; simp -implicitDefEqProofs [Tryz.f48])); exact ⟨_, rfl⟩)
  | zero =>
    have c1 := mjPlain_c (E := E) (e := 0) (k := 4) (l := []) (by simp [RM.nodes_mk, RT.nodes_mk])
    simp only [combM, Tm.kids, List.map_nil, Tm.raw, RM.k_mk] at hx0 hσ0
    simp at c1 hx0 hσ0
    subst hx0 hσ0
    simp [Tm.raw, Tm.kids]
    (repeat (first | refine Wp.seq ?_ | refine Wp.block ?_ | refine Wp.skip ?_ | refine Wp.exit ?_ | refine Wp.ret ?_ | refine thenK_n ?_ | refine thenK_r ?_ | refine thenK_e ?_ | refine blockK_n ?_ | refine blockK_r ?_ | refine blockK_e ?_ | refine blockK_o (by decide) ?_ | (refine Wp.condT ?_ ?_; focus (simp -implicitDefEqProofs [c1] <;> fail)) | (refine Wp.condF ?_ ?_; focus (simp -implicitDefEqProofs [c1] <;> fail)) | refine Wp.reg (by simp -implicitDefEqProofs [c1]; exact ⟨rfl, rfl⟩) ?_ | refine Wp.regA (by simp -implicitDefEqProofs [c1]; exact ⟨rfl, rfl⟩) (by rfl) ?_))
    (apply endK_r; (focus (simp -implicitDefEqProofs [Tryz.f48]; try rfl)); (focus (intro g; simp -implicitDefEqProofs [Tryz.f48])); exact ⟨_, rfl⟩)
  | unit =>
    have c1 := mjPlain_c (E := E) (e := 0) (k := 13) (l := []) (by simp [RM.nodes_mk, RT.nodes_mk])
    simp only [combM, Tm.kids, List.map_nil, Tm.raw, RM.k_mk] at hx0 hσ0
    simp at c1 hx0 hσ0
    subst hx0 hσ0
    simp [Tm.raw, Tm.kids]
    (repeat (first | refine Wp.seq ?_ | refine Wp.block ?_ | refine Wp.skip ?_ | refine Wp.exit ?_ | refine Wp.ret ?_ | refine thenK_n ?_ | refine thenK_r ?_ | refine thenK_e ?_ | refine blockK_n ?_ | refine blockK_r ?_ | refine blockK_e ?_ | refine blockK_o (by decide) ?_ | (refine Wp.condT ?_ ?_; focus (simp -implicitDefEqProofs [c1] <;> fail)) | (refine Wp.condF ?_ ?_; focus (simp -implicitDefEqProofs [c1] <;> fail)) | refine Wp.reg (by simp -implicitDefEqProofs [c1]; exact ⟨rfl, rfl⟩) ?_ | refine Wp.regA (by simp -implicitDefEqProofs [c1]; exact ⟨rfl, rfl⟩) (by rfl) ?_))
    (apply endK_r; (focus (simp -implicitDefEqProofs [Tryz.f48]; try rfl)); (focus (intro g; simp -implicitDefEqProofs [Tryz.f48])); exact ⟨_, rfl⟩)
  | app f a =>
    simp [Tm.raw, Tm.kids]
    have g1 := hgd f (by simp [Tm.kids])
    have g2 := hgd a (by simp [Tm.kids])
    simp only [combM, Tm.kids, List.map_cons, List.map_nil, Tm.raw, RM.k_mk] at hx0 hσ0
    revert hx0 hσ0 g1 g2
    generalize (ofM f).1 = x
    generalize (ofM a).1 = y
    intro g1 g2 hx0 hσ0
    have c1 := mjPlain_c (E := E) (e := 0) (k := 3) (l := [x, y]) (nodes_two g1 g2)
    simp at c1 hx0 hσ0
    subst hx0 hσ0
    (repeat (first | refine Wp.seq ?_ | refine Wp.block ?_ | refine Wp.skip ?_ | refine Wp.exit ?_ | refine Wp.ret ?_ | refine thenK_n ?_ | refine thenK_r ?_ | refine thenK_e ?_ | refine blockK_n ?_ | refine blockK_r ?_ | refine blockK_e ?_ | refine blockK_o (by decide) ?_ | (refine Wp.condT ?_ ?_; focus (simp -implicitDefEqProofs [c1] <;> fail)) | (refine Wp.condF ?_ ?_; focus (simp -implicitDefEqProofs [c1] <;> fail)) | refine Wp.reg (by simp -implicitDefEqProofs [c1]; exact ⟨rfl, rfl⟩) ?_ | refine Wp.regA (by simp -implicitDefEqProofs [c1]; exact ⟨rfl, rfl⟩) (by rfl) ?_))
    (apply endK_r; (focus (simp -implicitDefEqProofs [Tryz.f48]; try rfl)); (focus (intro g; simp -implicitDefEqProofs [Tryz.f48])); exact ⟨_, rfl⟩)
  | pair f a =>
    simp [Tm.raw, Tm.kids]
    have g1 := hgd f (by simp [Tm.kids])
    have g2 := hgd a (by simp [Tm.kids])
    simp only [combM, Tm.kids, List.map_cons, List.map_nil, Tm.raw, RM.k_mk] at hx0 hσ0
    revert hx0 hσ0 g1 g2
    generalize (ofM f).1 = x
    generalize (ofM a).1 = y
    intro g1 g2 hx0 hσ0
    have c1 := mjPlain_c (E := E) (e := 0) (k := 10) (l := [x, y]) (nodes_two g1 g2)
    simp at c1 hx0 hσ0
    subst hx0 hσ0
    (repeat (first | refine Wp.seq ?_ | refine Wp.block ?_ | refine Wp.skip ?_ | refine Wp.exit ?_ | refine Wp.ret ?_ | refine thenK_n ?_ | refine thenK_r ?_ | refine thenK_e ?_ | refine blockK_n ?_ | refine blockK_r ?_ | refine blockK_e ?_ | refine blockK_o (by decide) ?_ | (refine Wp.condT ?_ ?_; focus (simp -implicitDefEqProofs [c1] <;> fail)) | (refine Wp.condF ?_ ?_; focus (simp -implicitDefEqProofs [c1] <;> fail)) | refine Wp.reg (by simp -implicitDefEqProofs [c1]; exact ⟨rfl, rfl⟩) ?_ | refine Wp.regA (by simp -implicitDefEqProofs [c1]; exact ⟨rfl, rfl⟩) (by rfl) ?_))
    (apply endK_r; (focus (simp -implicitDefEqProofs [Tryz.f48]; try rfl)); (focus (intro g; simp -implicitDefEqProofs [Tryz.f48])); exact ⟨_, rfl⟩)
  | succ a =>
    simp [Tm.raw, Tm.kids]
    have g1 := hgd a (by simp [Tm.kids])
    simp only [combM, Tm.kids, List.map_cons, List.map_nil, Tm.raw, RM.k_mk] at hx0 hσ0
    revert hx0 hσ0 g1
    generalize (ofM a).1 = x
    intro g1 hx0 hσ0
    have c1 := mjPlain_c (E := E) (e := 0) (k := 5) (l := [x]) (nodes_one g1)
    simp at c1 hx0 hσ0
    subst hx0 hσ0
    (repeat (first | refine Wp.seq ?_ | refine Wp.block ?_ | refine Wp.skip ?_ | refine Wp.exit ?_ | refine Wp.ret ?_ | refine thenK_n ?_ | refine thenK_r ?_ | refine thenK_e ?_ | refine blockK_n ?_ | refine blockK_r ?_ | refine blockK_e ?_ | refine blockK_o (by decide) ?_ | (refine Wp.condT ?_ ?_; focus (simp -implicitDefEqProofs [c1] <;> fail)) | (refine Wp.condF ?_ ?_; focus (simp -implicitDefEqProofs [c1] <;> fail)) | refine Wp.reg (by simp -implicitDefEqProofs [c1]; exact ⟨rfl, rfl⟩) ?_ | refine Wp.regA (by simp -implicitDefEqProofs [c1]; exact ⟨rfl, rfl⟩) (by rfl) ?_))
    (apply endK_r; (focus (simp -implicitDefEqProofs [Tryz.f48]; try rfl)); (focus (intro g; simp -implicitDefEqProofs [Tryz.f48])); exact ⟨_, rfl⟩)
  | fst a =>
    simp [Tm.raw, Tm.kids]
    have g1 := hgd a (by simp [Tm.kids])
    simp only [combM, Tm.kids, List.map_cons, List.map_nil, Tm.raw, RM.k_mk] at hx0 hσ0
    revert hx0 hσ0 g1
    generalize (ofM a).1 = x
    intro g1 hx0 hσ0
    have c1 := mjPlain_c (E := E) (e := 0) (k := 11) (l := [x]) (nodes_one g1)
    simp at c1 hx0 hσ0
    subst hx0 hσ0
    (repeat (first | refine Wp.seq ?_ | refine Wp.block ?_ | refine Wp.skip ?_ | refine Wp.exit ?_ | refine Wp.ret ?_ | refine thenK_n ?_ | refine thenK_r ?_ | refine thenK_e ?_ | refine blockK_n ?_ | refine blockK_r ?_ | refine blockK_e ?_ | refine blockK_o (by decide) ?_ | (refine Wp.condT ?_ ?_; focus (simp -implicitDefEqProofs [c1] <;> fail)) | (refine Wp.condF ?_ ?_; focus (simp -implicitDefEqProofs [c1] <;> fail)) | refine Wp.reg (by simp -implicitDefEqProofs [c1]; exact ⟨rfl, rfl⟩) ?_ | refine Wp.regA (by simp -implicitDefEqProofs [c1]; exact ⟨rfl, rfl⟩) (by rfl) ?_))
    (apply endK_r; (focus (simp -implicitDefEqProofs [Tryz.f48]; try rfl)); (focus (intro g; simp -implicitDefEqProofs [Tryz.f48])); exact ⟨_, rfl⟩)
  | snd a =>
    simp [Tm.raw, Tm.kids]
    have g1 := hgd a (by simp [Tm.kids])
    simp only [combM, Tm.kids, List.map_cons, List.map_nil, Tm.raw, RM.k_mk] at hx0 hσ0
    revert hx0 hσ0 g1
    generalize (ofM a).1 = x
    intro g1 hx0 hσ0
    have c1 := mjPlain_c (E := E) (e := 0) (k := 12) (l := [x]) (nodes_one g1)
    simp at c1 hx0 hσ0
    subst hx0 hσ0
    (repeat (first | refine Wp.seq ?_ | refine Wp.block ?_ | refine Wp.skip ?_ | refine Wp.exit ?_ | refine Wp.ret ?_ | refine thenK_n ?_ | refine thenK_r ?_ | refine thenK_e ?_ | refine blockK_n ?_ | refine blockK_r ?_ | refine blockK_e ?_ | refine blockK_o (by decide) ?_ | (refine Wp.condT ?_ ?_; focus (simp -implicitDefEqProofs [c1] <;> fail)) | (refine Wp.condF ?_ ?_; focus (simp -implicitDefEqProofs [c1] <;> fail)) | refine Wp.reg (by simp -implicitDefEqProofs [c1]; exact ⟨rfl, rfl⟩) ?_ | refine Wp.regA (by simp -implicitDefEqProofs [c1]; exact ⟨rfl, rfl⟩) (by rfl) ?_))
    (apply endK_r; (focus (simp -implicitDefEqProofs [Tryz.f48]; try rfl)); (focus (intro g; simp -implicitDefEqProofs [Tryz.f48])); exact ⟨_, rfl⟩)
  | lam s a =>
    simp [Tm.raw, Tm.kids]
    have g1 := hgd a (by simp [Tm.kids])
    simp only [Tm.tyN] at hty
    simp only [combM, Tm.kids, List.map_cons, List.map_nil] at hx0 hσ0
    revert hx0 hσ0 g1
    generalize (ofM a).1 = x
    intro g1 hx0 hσ0
    have c0 := bare1_c (E := E) (s := s) (by omega)
    have c1 := mjNode_c (E := E) (e := 0) (k := 2) (m := s.star.raw.k) (us := s.star.raw.as) (l := [x]) (nodes_oneT (by simp [Ty.raw_nodes, Ty.star_size]; omega) g1)
    simp at c1 hx0 hσ0
    subst hx0 hσ0
    (repeat (first | refine Wp.seq ?_ | refine Wp.block ?_ | refine Wp.skip ?_ | refine Wp.exit ?_ | refine Wp.ret ?_ | refine thenK_n ?_ | refine thenK_r ?_ | refine thenK_e ?_ | refine blockK_n ?_ | refine blockK_r ?_ | refine blockK_e ?_ | refine blockK_o (by decide) ?_ | (refine Wp.condT ?_ ?_; focus (simp -implicitDefEqProofs [c0, c1] <;> fail)) | (refine Wp.condF ?_ ?_; focus (simp -implicitDefEqProofs [c0, c1] <;> fail)) | refine Wp.reg (by simp -implicitDefEqProofs [c0, c1]; exact ⟨rfl, rfl⟩) ?_ | refine Wp.regA (by simp -implicitDefEqProofs [c0, c1]; exact ⟨rfl, rfl⟩) (by rfl) ?_))
    (apply endK_r; (focus (simp -implicitDefEqProofs [Tryz.f48]; try rfl)); (focus (intro g; simp -implicitDefEqProofs [Tryz.f48])); exact ⟨_, rfl⟩)
  | cons f a =>
    simp [Tm.raw, Tm.kids]
    have g1 := hgd f (by simp [Tm.kids])
    have g2 := hgd a (by simp [Tm.kids])
    simp only [combM, Tm.kids, List.map_cons, List.map_nil] at hx0 hσ0
    revert hx0 hσ0 g1 g2
    generalize (ofM f).1 = x
    generalize (ofM a).1 = y
    intro g1 g2 hx0 hσ0
    obtain ⟨p, hp⟩ : ∃ p, p = nodeM 0 5 noTy [y] := ⟨_, rfl⟩
    rw [← hp] at hx0 hσ0
    have gp : p.1.good (b + 70 * 4096) := by rw [hp]; exact good_node (by omega) (by rw [noTy_nodes]; omega) (by intro z hz; simp at hz; subst hz; exact g2)
    have c0 := mjPlain_c (E := E) (e := 0) (k := 5) (l := [y]) (nodes_one g2)
    have c1 := mjMax_c (E := E) (e := p.2) (b := b + 70 * 4096) (s := .nat) (k := x.k) (i := x.i) (m := x.ty.k) (us := x.ty.as) (ts := x.as) (k' := p.1.k) (i' := p.1.i) (m' := p.1.ty.k) (us' := p.1.ty.as) (ts' := p.1.as) (by omega) (by omega) (by simp [Ty.size]) (by simpa using g1) (by simpa using gp)
    have e0 : nodeM 0 5 (RT.mk 0 []) [y] = p := hp.symm
    simp [e0] at c0
    simp at c1 hx0 hσ0
    simp [Ty.raw] at c1
    subst hx0 hσ0
    clear hp e0
    (repeat (first | refine Wp.seq ?_ | refine Wp.block ?_ | refine Wp.skip ?_ | refine Wp.exit ?_ | refine Wp.ret ?_ | refine thenK_n ?_ | refine thenK_r ?_ | refine thenK_e ?_ | refine blockK_n ?_ | refine blockK_r ?_ | refine blockK_e ?_ | refine blockK_o (by decide) ?_ | (refine Wp.condT ?_ ?_; focus (simp -implicitDefEqProofs [c0, c1, scNat_c] <;> fail)) | (refine Wp.condF ?_ ?_; focus (simp -implicitDefEqProofs [c0, c1, scNat_c] <;> fail)) | refine Wp.reg (by simp -implicitDefEqProofs [c0, c1, scNat_c]; exact ⟨rfl, rfl⟩) ?_ | refine Wp.regA (by simp -implicitDefEqProofs [c0, c1, scNat_c]; exact ⟨rfl, rfl⟩) (by rfl) ?_))
    (apply endK_r; (focus (simp -implicitDefEqProofs [Tryz.f48]; try rfl)); (focus (intro g; simp -implicitDefEqProofs [Tryz.f48])); exact ⟨_, rfl⟩)
  | recn s f a q =>
    simp [Tm.raw, Tm.kids]
    have g1 := hgd f (by simp [Tm.kids])
    have g2 := hgd a (by simp [Tm.kids])
    have g3 := hgd q (by simp [Tm.kids])
    simp only [Tm.tyN] at hty
    simp only [combM, Tm.kids, List.map_cons, List.map_nil] at hx0 hσ0
    revert hx0 hσ0 g1 g2 g3
    generalize (ofM f).1 = x
    generalize (ofM a).1 = y
    generalize (ofM q).1 = z
    intro g1 g2 g3 hx0 hσ0
    obtain ⟨y', hy'⟩ : ∃ p, p = y.lift 2 0 := ⟨_, rfl⟩
    rw [← hy'] at hx0 hσ0
    obtain ⟨p1, hp1⟩ : ∃ p, p = callM 0 y' [varM 1, varM 0] := ⟨_, rfl⟩
    rw [← hp1] at hx0 hσ0
    obtain ⟨p2, hp2⟩ : ∃ p, p = stepM s.star p1.2 p1.1 := ⟨_, rfl⟩
    rw [← hp2] at hx0 hσ0
    have gy : y'.good (b + 70 * 4096 + 2) := by rw [hy']; exact g2.lift (by omega) 0
    have gv : ∀ z ∈ [varM 1, varM 0], z.good (b + 70 * 4096 + 2) := by intro z hz; simp at hz; rcases hz with rfl | rfl <;> exact good_var (by omega)
    have gp1 : p1.1.good (b + 70 * 4096 + 2) := by rw [hp1]; exact good_call (by omega) _ _ _ gy gv
    have gp2 : p2.1.good (b + 70 * 4096 + 70) := by rw [hp2]; exact (good_step (by omega) (by rw [Ty.star_size]; exact hty) gp1).mono (by rw [Ty.star_size]; omega)
    have c0 := bare1_c (E := E) (s := s) (by omega)
    have l1 := scLift_c (E := E) (n := 2) (c := 0) (k := y.k) (i := y.i) (m := y.ty.k) (us := y.ty.as) (ts := y.as) (by omega) (by have := g2.nodes; simp; omega) (by simpa using RM.idx_mono (by omega) y g2.2.1) (by omega)
    have c1 := mjCall_c (E := E) (e := 0) (k := y'.k) (i := y'.i) (m := y'.ty.k) (us := y'.ty.as) (ts := y'.as) (l := [varM 1, varM 0]) (b := b + 70 * 4096 + 2) (by omega) (by simpa using gy) gv (by simp)
    have c2 := mjStep_c (E := E) (e := p1.2) (b := b + 70 * 4096 + 2) (s := s.star) (k := p1.1.k) (i := p1.1.i) (m := p1.1.ty.k) (us := p1.1.ty.as) (ts := p1.1.as) (by omega) (by omega) (by rw [Ty.star_size]; exact hty) (by simpa using gp1)
    have c3 := mjNode_c (E := E) (e := p2.2) (k := 6) (m := s.star.raw.k) (us := s.star.raw.as) (l := [x, p2.1, z]) (by have := g1.nodes; have := gp2.nodes; have := g3.nodes; have := Ty.star_size s; have := Ty.raw_nodes s.star; simp only [RM.nodes_mk, RT.eta, List.map_cons, List.map_nil, List.sum_cons, List.sum_nil]; omega)
    simp [← hy'] at l1
    simp [← hp1] at c1
    simp [varM] at c1
    simp [← hp2] at c2
    simp at c3 hx0 hσ0
    subst hx0 hσ0
    clear hy' hp1 hp2
    (repeat (first | refine Wp.seq ?_ | refine Wp.block ?_ | refine Wp.skip ?_ | refine Wp.exit ?_ | refine Wp.ret ?_ | refine thenK_n ?_ | refine thenK_r ?_ | refine thenK_e ?_ | refine blockK_n ?_ | refine blockK_r ?_ | refine blockK_e ?_ | refine blockK_o (by decide) ?_ | (refine Wp.condT ?_ ?_; focus (simp -implicitDefEqProofs [c0, l1, scVar_c, c1, c2, c3] <;> fail)) | (refine Wp.condF ?_ ?_; focus (simp -implicitDefEqProofs [c0, l1, scVar_c, c1, c2, c3] <;> fail)) | refine Wp.reg (by simp -implicitDefEqProofs [c0, l1, scVar_c, c1, c2, c3]; exact ⟨rfl, rfl⟩) ?_ | refine Wp.regA (by simp -implicitDefEqProofs [c0, l1, scVar_c, c1, c2, c3]; exact ⟨rfl, rfl⟩) (by rfl) ?_))
    (apply endK_r; (focus (simp -implicitDefEqProofs [Tryz.f48]; try rfl)); (focus (intro g; simp -implicitDefEqProofs [Tryz.f48])); exact ⟨_, rfl⟩)
  | fold s f a q =>
    simp [Tm.raw, Tm.kids]
    have g1 := hgd f (by simp [Tm.kids])
    have g2 := hgd a (by simp [Tm.kids])
    have g3 := hgd q (by simp [Tm.kids])
    simp only [Tm.tyN] at hty
    simp only [combM, Tm.kids, List.map_cons, List.map_nil] at hx0 hσ0
    revert hx0 hσ0 g1 g2 g3
    generalize (ofM f).1 = x
    generalize (ofM a).1 = y
    generalize (ofM q).1 = z
    intro g1 g2 g3 hx0 hσ0
    obtain ⟨y', hy'⟩ : ∃ p, p = y.lift 3 0 := ⟨_, rfl⟩
    rw [← hy'] at hx0 hσ0
    obtain ⟨x', hx'⟩ : ∃ p, p = x.lift 1 0 := ⟨_, rfl⟩
    rw [← hx'] at hx0 hσ0
    obtain ⟨p1, hp1⟩ : ∃ p, p = callM 0 y' [varM 2, varM 2, varM 0] := ⟨_, rfl⟩
    rw [← hp1] at hx0 hσ0
    obtain ⟨p2, hp2⟩ : ∃ p, p = stepM s.star p1.2 p1.1 := ⟨_, rfl⟩
    rw [← hp2] at hx0 hσ0
    obtain ⟨p3, hp3⟩ : ∃ p, p = nodeM p2.2 6 s.star.raw [x', p2.1, varM 0] := ⟨_, rfl⟩
    rw [← hp3] at hx0 hσ0
    obtain ⟨p4, hp4⟩ : ∃ p, p = nodeM p3.2 2 Ty.nat.raw [p3.1] := ⟨_, rfl⟩
    rw [← hp4] at hx0 hσ0
    have gy : y'.good (b + 70 * 4096 + 3) := by rw [hy']; exact g2.lift (by omega) 0
    have gx : x'.good (b + 70 * 4096 + 70) := by rw [hx']; exact (g1.lift (n := 1) (by omega) 0).mono (by omega)
    have gv : ∀ z ∈ [varM 2, varM 2, varM 0], z.good (b + 70 * 4096 + 3) := by intro z hz; simp at hz; rcases hz with rfl | rfl <;> exact good_var (by omega)
    have gp1 : p1.1.good (b + 70 * 4096 + 3) := by rw [hp1]; exact good_call (by omega) _ _ _ gy gv
    have gp2 : p2.1.good (b + 70 * 4096 + 70) := by rw [hp2]; exact (good_step (by omega) (by rw [Ty.star_size]; exact hty) gp1).mono (by rw [Ty.star_size]; omega)
    have gp3 : p3.1.good (b + 70 * 4096 + 70) := by
      rw [hp3]
      refine good_node (by omega) (by rw [Ty.raw_nodes, Ty.star_size]; exact hty) ?_
      intro w hw
      simp only [List.mem_cons, List.not_mem_nil, or_false] at hw
      rcases hw with rfl | rfl | rfl
      · exact gx
      · exact gp2
      · exact good_var (by omega)
    have gp4 : p4.1.good (b + 70 * 4096 + 70) := by
      rw [hp4]
      refine good_node (by omega) (by simp [Ty.raw, RT.nodes_mk]) ?_
      intro w hw
      simp only [List.mem_cons, List.not_mem_nil, or_false] at hw
      subst hw
      exact gp3
    have c0 := bare1_c (E := E) (s := s) (by omega)
    have l1 := scLift_c (E := E) (n := 3) (c := 0) (k := y.k) (i := y.i) (m := y.ty.k) (us := y.ty.as) (ts := y.as) (by omega) (by have := g2.nodes; simp; omega) (by simpa using RM.idx_mono (by omega) y g2.2.1) (by omega)
    have l2 := scLift_c (E := E) (n := 1) (c := 0) (k := x.k) (i := x.i) (m := x.ty.k) (us := x.ty.as) (ts := x.as) (by omega) (by have := g1.nodes; simp; omega) (by simpa using RM.idx_mono (by omega) x g1.2.1) (by omega)
    have c1 := mjCall_c (E := E) (e := 0) (k := y'.k) (i := y'.i) (m := y'.ty.k) (us := y'.ty.as) (ts := y'.as) (l := [varM 2, varM 2, varM 0]) (b := b + 70 * 4096 + 3) (by omega) (by simpa using gy) gv (by simp)
    have c2 := mjStep_c (E := E) (e := p1.2) (b := b + 70 * 4096 + 3) (s := s.star) (k := p1.1.k) (i := p1.1.i) (m := p1.1.ty.k) (us := p1.1.ty.as) (ts := p1.1.as) (by omega) (by omega) (by rw [Ty.star_size]; exact hty) (by simpa using gp1)
    have c3 := mjNode_c (E := E) (e := p2.2) (k := 6) (m := s.star.raw.k) (us := s.star.raw.as) (l := [x', p2.1, varM 0]) (by have := gx.nodes; have := gp2.nodes; have := Ty.star_size s; have := Ty.raw_nodes s.star; simp [RM.nodes_mk, varM, RT.nodes_mk]; omega)
    have c4 := mjNode_c (E := E) (e := p3.2) (k := 2) (m := 1) (us := []) (l := [p3.1]) (nodes_oneT (by simp [RT.nodes_mk]) gp3)
    have c5 := mjCall_c (E := E) (e := p4.2) (k := p4.1.k) (i := p4.1.i) (m := p4.1.ty.k) (us := p4.1.ty.as) (ts := p4.1.as) (l := [z]) (b := b + 70 * 4096 + 70) (by omega) (by simpa using gp4) (by intro w hw; simp at hw; subst hw; exact g3.mono (by omega)) (by simp)
    have e4 : nodeM p3.2 2 (RT.mk 1 []) [p3.1] = p4 := hp4.symm
    simp [← hy'] at l1
    simp [← hx'] at l2
    simp [← hp1] at c1
    simp [varM] at c1
    simp [← hp2] at c2
    simp [← hp3] at c3
    simp [varM] at c3
    simp [e4] at c4
    simp at c5 hx0 hσ0
    subst hx0 hσ0
    clear hy' hx' hp1 hp2 hp3 hp4 e4
    (repeat (first | refine Wp.seq ?_ | refine Wp.block ?_ | refine Wp.skip ?_ | refine Wp.exit ?_ | refine Wp.ret ?_ | refine thenK_n ?_ | refine thenK_r ?_ | refine thenK_e ?_ | refine blockK_n ?_ | refine blockK_r ?_ | refine blockK_e ?_ | refine blockK_o (by decide) ?_ | (refine Wp.condT ?_ ?_; focus (simp -implicitDefEqProofs [c0, l1, l2, scVar_c, scNat_c, c1, c2, c3, c4, c5] <;> fail)) | (refine Wp.condF ?_ ?_; focus (simp -implicitDefEqProofs [c0, l1, l2, scVar_c, scNat_c, c1, c2, c3, c4, c5] <;> fail)) | refine Wp.reg (by simp -implicitDefEqProofs [c0, l1, l2, scVar_c, scNat_c, c1, c2, c3, c4, c5]; exact ⟨rfl, rfl⟩) ?_ | refine Wp.regA (by simp -implicitDefEqProofs [c0, l1, l2, scVar_c, scNat_c, c1, c2, c3, c4, c5]; exact ⟨rfl, rfl⟩) (by rfl) ?_))
    (apply endK_r; (focus (simp -implicitDefEqProofs [Tryz.f48]; try rfl)); (focus (intro g; simp -implicitDefEqProofs [Tryz.f48])); exact ⟨_, rfl⟩)
end M
end Go.Proofs.YthclcchnodjjpaaGreatDoor
/- majorant.run, majorant.Term, majorant.Type. -/
set_option linter.unusedVariables false
set_option linter.unusedSimpArgs false
set_option maxRecDepth 10000
set_option maxHeartbeats 4000000
namespace Go.Proofs.YthclcchnodjjpaaGreatDoor
namespace M
attribute [local irreducible] Wp thenK blockK endK
variable {E : Oracle}
open T (Ty Tm noTy)
theorem mjTerm1 (t : Tm) {b : Nat} (hb : 3 ≤ b) (hb2 : b ≤ 400000000) (hn : t.size ≤ 4096) (hs : t.small = true) (hi : t.idx b = true) :
    den X E 47 [.loc 0 0, .rp t.raw.cells] [[.int .i64 0]] = some ((ofM t).1.enc, [[.int .i64 (ofM t).2]]) := by
  have c1 : ∀ (g b : Nat) (S : St) (o1 o2 : Own), sd S.σ b = some [.int .i64 0] → callT (X.at g) (den X E) S 48 [.loc b 0, .agg [.int .i64 t.raw.k, .int .i64 t.raw.i, .int .i64 t.raw.ty.k, .sl (List.map RT.cells t.raw.ty.as) o1, .sl (List.map RM.cells t.raw.as) o2]] = some (.agg [.int .i64 (ofM t).1.k, .int .i64 (ofM t).1.i, .int .i64 (ofM t).1.ty.k, .sl (List.map RT.cells (ofM t).1.ty.as) .dead, .sl (List.map RM.cells (ofM t).1.as) .dead], { S with σ := S.σ.set b [.int .i64 (ofM t).2] }) := by
    intros
    rename_i hS
    simpa using call_upD (cf := X.at _) (fn := Tryz.f48) (args' := [_]) (by kernel_rfl) rfl (by rfl) (by rfl) (by simp) (by simp; try rfl) (by simp) (by simp) (mjOf b hb hb2 t.size t (Nat.le_refl _) hn hs hi) _ hS
  refine den_w (fn := Tryz.f47) (σ1 := [[.int .i64 (ofM t).2]]) (by rfl) (by rfl) (by kernel_rfl) rfl (by rfl) (by rfl) (by simp -implicitDefEqProofs) ?_
  simp -implicitDefEqProofs
  (repeat (first | refine Wp.seq ?_ | refine Wp.block ?_ | refine Wp.skip ?_ | refine Wp.exit ?_ | refine Wp.ret ?_ | refine thenK_n ?_ | refine thenK_r ?_ | refine thenK_e ?_ | refine blockK_n ?_ | refine blockK_r ?_ | refine blockK_e ?_ | refine blockK_o (by decide) ?_ | (refine Wp.condT ?_ ?_; focus (simp -implicitDefEqProofs [c1] <;> fail)) | (refine Wp.condF ?_ ?_; focus (simp -implicitDefEqProofs [c1] <;> fail)) | refine Wp.reg (by simp -implicitDefEqProofs [c1]; exact ⟨rfl, rfl⟩) ?_ | refine Wp.regA (by simp -implicitDefEqProofs [c1]; exact ⟨rfl, rfl⟩) (by rfl) ?_))
  (apply endK_r; (focus (simp -implicitDefEqProofs [Tryz.f47]; try rfl)); (focus (intro g; simp -implicitDefEqProofs [Tryz.f47])); exact ⟨_, rfl⟩)
def runR (t : Tm) : AV := if (ofM t).2 = 0 then .tup [(ofM t).1.enc, .int .i64 0] else .tup [zeroM.enc, .int .i64 4]
theorem mjRun (t : Tm) {b : Nat} (hb : 3 ≤ b) (hb2 : b ≤ 400000000) (hn : t.size ≤ 4096) (hs : t.small = true) (hi : t.idx b = true) :
    den X E 46 [.fn 47 [.rp t.raw.cells]] [] = some (runR t, []) := by
  have c1 : ∀ (g b : Nat) (S : St), sd S.σ b = some [.int .i64 0] → callT (X.at g) (den X E) S 47 [.loc b 0, .rp [.int .i64 t.raw.k, .int .i64 t.raw.i, .int .i64 t.raw.ty.k, .sl (List.map RT.cells t.raw.ty.as) .dead, .sl (List.map RM.cells t.raw.as) .dead]] = some (.agg [.int .i64 (ofM t).1.k, .int .i64 (ofM t).1.i, .int .i64 (ofM t).1.ty.k, .sl (List.map RT.cells (ofM t).1.ty.as) .dead, .sl (List.map RM.cells (ofM t).1.as) .dead], { S with σ := S.σ.set b [.int .i64 (ofM t).2] }) := by
    intros
    rename_i hS
    simpa using call_upD (cf := X.at _) (fn := Tryz.f47) (args' := [_]) (by kernel_rfl) rfl (by rfl) (by rfl) (by simp) (by simp; try rfl) (by simp) (by simp) (mjTerm1 t hb hb2 hn hs hi) _ hS
  by_cases he : (ofM t).2 = 0
  · have hr : runR t = .tup [(ofM t).1.enc, .int .i64 0] := by simp only [runR, if_pos he]
    rw [hr]
    simp only [he] at c1
    refine den_w0 (fn := Tryz.f46) (by rfl) (by rfl) (by kernel_rfl) rfl (by rfl) ?_
    simp -implicitDefEqProofs
    (repeat (first | refine Wp.seq ?_ | refine Wp.block ?_ | refine Wp.skip ?_ | refine Wp.exit ?_ | refine Wp.ret ?_ | refine thenK_n ?_ | refine thenK_r ?_ | refine thenK_e ?_ | refine blockK_n ?_ | refine blockK_r ?_ | refine blockK_e ?_ | refine blockK_o (by decide) ?_ | (refine Wp.condT ?_ ?_; focus (simp -implicitDefEqProofs [c1] <;> fail)) | (refine Wp.condF ?_ ?_; focus (simp -implicitDefEqProofs [c1] <;> fail)) | refine Wp.reg (by simp -implicitDefEqProofs [c1]; exact ⟨rfl, rfl⟩) ?_ | refine Wp.regA (by simp -implicitDefEqProofs [c1]; exact ⟨rfl, rfl⟩) (by rfl) ?_))
    (apply endK_r; (focus (simp -implicitDefEqProofs [Tryz.f46]; try rfl)); (focus (intro g; simp -implicitDefEqProofs [Tryz.f46])); exact ⟨_, rfl⟩)
  · have hr : runR t = .tup [zeroM.enc, .int .i64 4] := by simp only [runR, if_neg he]
    rw [hr]
    simp only [(ofM_err t).resolve_left he] at c1
    refine den_w0 (fn := Tryz.f46) (by rfl) (by rfl) (by kernel_rfl) rfl (by rfl) ?_
    simp -implicitDefEqProofs
    (repeat (first | refine Wp.seq ?_ | refine Wp.block ?_ | refine Wp.skip ?_ | refine Wp.exit ?_ | refine Wp.ret ?_ | refine thenK_n ?_ | refine thenK_r ?_ | refine thenK_e ?_ | refine blockK_n ?_ | refine blockK_r ?_ | refine blockK_e ?_ | refine blockK_o (by decide) ?_ | (refine Wp.condT ?_ ?_; focus (simp -implicitDefEqProofs [c1] <;> fail)) | (refine Wp.condF ?_ ?_; focus (simp -implicitDefEqProofs [c1] <;> fail)) | refine Wp.reg (by simp -implicitDefEqProofs [c1]; exact ⟨rfl, rfl⟩) ?_ | refine Wp.regA (by simp -implicitDefEqProofs [c1]; exact ⟨rfl, rfl⟩) (by rfl) ?_))
    (apply endK_r; (focus (simp -implicitDefEqProofs [Tryz.f46, zeroM]; try rfl)); (focus (intro g; simp -implicitDefEqProofs [Tryz.f46, zeroM])); exact ⟨_, rfl⟩)
theorem call_run (t : Tm) {b' : Nat} (hb : 3 ≤ b') (hb2 : b' ≤ 400000000) (hn : t.size ≤ 4096) (hs : t.small = true) (hi : t.idx b' = true) (g b : Nat) (S : St)
    (hS : sd S.σ b = some [.int .i64 t.raw.k, .int .i64 t.raw.i, .int .i64 t.raw.ty.k, .sl (List.map RT.cells t.raw.ty.as) .dead, .sl (List.map RM.cells t.raw.as) .dead]) :
    callT (X.at g) (den X E) S 46 [.fn 47 [.loc b 0]] = some (runR t, { S with σ := S.σ.set b [] }) := by
  have hP : (X.at g).P.funcs[46]? = some Tryz.f46 := by kernel_rfl
  have hS' : S.σ[b]? = some [.int .i64 t.raw.k, .int .i64 t.raw.i, .int .i64 t.raw.ty.k, .sl (List.map RT.cells t.raw.ty.as) .dead, .sl (List.map RM.cells t.raw.as) .dead] := hS
  have ho : hand (X.at g) (Tryz.f46).params.toList [] S.σ [.fn 47 [.loc b 0]] = some ⟨[.fn 47 [.rp t.raw.cells]], [], S.σ.set b []⟩ := by
    simp [hand, handOne, gives, give, hS', Tryz.f46]
  simp only [callT, hP, Option.bind_some, ho, List.any_nil, Bool.false_eq_true, if_false, List.map_nil, mjRun t hb hb2 hn hs hi, Option.map_some, putBack]

/-- What majorant.Term returns for a valid term. -/
theorem mjTerm (t : Tm) {b' : Nat} (hb : 3 ≤ b') (hb2 : b' ≤ 268435456) (hn : t.size ≤ 4096) (hs : t.small = true) (hi : t.idx b' = true) :
    den X E 13 [t.raw.enc] [] = some (runR t, []) := by
  have hnod : t.raw.nodes ≤ 1000000000 := by have := t.raw_nodes hs; omega
  have he : t.raw.err = 0 := by rw [t.raw_err hs, if_pos hn]
  have hfar : t.raw.near 268435456 = true := RM.near_of_idx _ (RM.idx_mono (b := b') (by omega) _ (by rw [t.raw_idx]; exact hi))
  have c1 := termsCheck_c (E := E) (k := t.raw.k) (i := t.raw.i) (m := t.raw.ty.k) (us := t.raw.ty.as) (ts := t.raw.as) (by simpa using hnod)
  have c2 := far_c (E := E) (k := t.raw.k) (i := t.raw.i) (m := t.raw.ty.k) (us := t.raw.ty.as) (ts := t.raw.as) (by simpa using hnod)
  simp [he] at c1
  simp [hfar] at c2
  have c3 := call_run (E := E) t hb (by omega) hn hs hi
  have hsplit : runR t = .tup [(if (ofM t).2 = 0 then (ofM t).1 else zeroM).enc, .int .i64 (if (ofM t).2 = 0 then 0 else 4)] := by unfold runR; split <;> rfl
  rw [hsplit] at c3 ⊢
  generalize (if (ofM t).2 = 0 then (ofM t).1 else zeroM) = x at c3
  generalize (if (ofM t).2 = 0 then (0 : Int) else 4) = y at c3
  simp at c3
  refine den_w0 (fn := Tryz.f13) (by rfl) (by rfl) (by kernel_rfl) rfl (by rfl) ?_
  simp -implicitDefEqProofs
  (repeat (first | refine Wp.seq ?_ | refine Wp.block ?_ | refine Wp.skip ?_ | refine Wp.exit ?_ | refine Wp.ret ?_ | refine thenK_n ?_ | refine thenK_r ?_ | refine thenK_e ?_ | refine blockK_n ?_ | refine blockK_r ?_ | refine blockK_e ?_ | refine blockK_o (by decide) ?_ | (refine Wp.condT ?_ ?_; focus (simp -implicitDefEqProofs [c1, c2, c3] <;> fail)) | (refine Wp.condF ?_ ?_; focus (simp -implicitDefEqProofs [c1, c2, c3] <;> fail)) | refine Wp.reg (by simp -implicitDefEqProofs [c1, c2, c3]; exact ⟨rfl, rfl⟩) ?_ | refine Wp.regA (by simp -implicitDefEqProofs [c1, c2, c3]; exact ⟨rfl, rfl⟩) (by rfl) ?_))
  (apply endK_r; (focus (simp -implicitDefEqProofs [Tryz.f13]; try rfl)); (focus (intro g; simp -implicitDefEqProofs [Tryz.f13])); exact ⟨_, rfl⟩)

theorem mjType (s : Ty) (hs : s.size ≤ 64) : den X E 15 [s.raw.enc] [] = some (.tup [s.star.raw.enc, .int .i64 0], []) := by
  have c1 := typesCheck_c (E := E) (k := s.raw.k) (ts := s.raw.as) (by simp [Ty.raw_nodes]; omega)
  simp [s.raw_err hs] at c1
  have c2 := bare1_c (E := E) (s := s) (by omega)
  refine den_w0 (fn := Tryz.f15) (by rfl) (by rfl) (by kernel_rfl) rfl (by rfl) ?_
  simp -implicitDefEqProofs
  (repeat (first | refine Wp.seq ?_ | refine Wp.block ?_ | refine Wp.skip ?_ | refine Wp.exit ?_ | refine Wp.ret ?_ | refine thenK_n ?_ | refine thenK_r ?_ | refine thenK_e ?_ | refine blockK_n ?_ | refine blockK_r ?_ | refine blockK_e ?_ | refine blockK_o (by decide) ?_ | (refine Wp.condT ?_ ?_; focus (simp -implicitDefEqProofs [c1, c2] <;> fail)) | (refine Wp.condF ?_ ?_; focus (simp -implicitDefEqProofs [c1, c2] <;> fail)) | refine Wp.reg (by simp -implicitDefEqProofs [c1, c2]; exact ⟨rfl, rfl⟩) ?_ | refine Wp.regA (by simp -implicitDefEqProofs [c1, c2]; exact ⟨rfl, rfl⟩) (by rfl) ?_))
  (apply endK_r; (focus (simp -implicitDefEqProofs [Tryz.f15]; try rfl)); (focus (intro g; simp -implicitDefEqProofs [Tryz.f15])); exact ⟨_, rfl⟩)
theorem mjType_c {s : Ty} (hs : s.size ≤ 64) (g : Nat) (S : St) (o1 : Own) : callT (X.at g) (den X E) S 15 [.agg [.int .i64 s.raw.k, .sl (List.map RT.cells s.raw.as) o1]] = some (.tup [.agg [.int .i64 s.star.raw.k, .sl (List.map RT.cells s.star.raw.as) .dead], .int .i64 0], S) := by
  simpa using call_up (cf := X.at g) (fn := Tryz.f15) (args' := [.agg [.int .i64 s.raw.k, .sl (List.map RT.cells s.raw.as) o1]]) (by kernel_rfl) (by simp) (by simp; try rfl) (mjType s hs) S
end M
end Go.Proofs.YthclcchnodjjpaaGreatDoor
