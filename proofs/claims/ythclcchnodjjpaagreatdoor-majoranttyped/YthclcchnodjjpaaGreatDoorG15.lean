/- A part of the proof: MjC, MjD, RsP. -/
import Derived.Test.YthclcchnodjjpaaGreatDoorG14
/- The maker of majorants: of, run, majorant.Term. -/
set_option linter.unusedVariables false
set_option linter.unusedSimpArgs false
set_option maxRecDepth 10000
set_option maxHeartbeats 4000000
namespace Go.Proofs.YthclcchnodjjpaaGreatDoor
namespace M
attribute [local irreducible] Wp thenK blockK endK
variable {E : Oracle}
open T (Ty Tm noTy)
attribute [local simp] noTy
theorem mjOf (b : Nat) (hb : 3 ≤ b) (hb2 : b ≤ 400000000) : ∀ (n : Nat) (t : Tm), t.size ≤ n → n ≤ 4096 → t.small = true → t.idx b = true →
    den X E 48 [.loc 0 0, t.raw.enc] [[.int .i64 0]] = some ((ofM t).1.enc, [[.int .i64 (ofM t).2]]) := by
  intro n
  induction n with
  | zero => intro t ht; have := t.size_pos; omega
  | succ n ih =>
  intro t ht hn hs hi
  have ihc : ∀ a ∈ t.kids, ∀ (g b : Nat) (S : St) (o1 o2 : Own), sd S.σ b = some [.int .i64 0] → callT (X.at g) (den X E) S 48 [.loc b 0, .agg [.int .i64 a.raw.k, .int .i64 a.raw.i, .int .i64 a.raw.ty.k, .sl (List.map RT.cells a.raw.ty.as) o1, .sl (List.map RM.cells a.raw.as) o2]] = some (.agg [.int .i64 (ofM a).1.k, .int .i64 (ofM a).1.i, .int .i64 (ofM a).1.ty.k, .sl (List.map RT.cells (ofM a).1.ty.as) .dead, .sl (List.map RM.cells (ofM a).1.as) .dead], { S with σ := S.σ.set b [.int .i64 (ofM a).2] }) := by
    intros
    rename_i hS
    simpa using call_upD (cf := X.at _) (fn := Tryz.f48) (args' := [_]) (by kernel_rfl) rfl (by rfl) (by rfl) (by simp) (by simp; try rfl) (by simp) (by simp) (ih _ (by have := Tm.kids_size (t := t) (by assumption); omega) (by omega) (Tm.kids_small (t := t) (by assumption) hs) (Tm.kids_idx (t := t) (by assumption) hi)) _ hS
  have hlen := t.kids_len
  have has := t.raw_as
  have hgood : ∀ a ∈ t.kids, (ofM a).1.good (b + 70 * 4096) := fun a ha => (good_of b hb a.size a (Nat.le_refl _) (Tm.kids_small ha hs) (Tm.kids_idx ha hi)).mono (by have := Tm.kids_size ha; omega)
  obtain ⟨K, hK⟩ : ∃ K, K = t.kids := ⟨_, rfl⟩
  rw [← hK] at ihc hlen has hgood
  have hofeq := ofM_eq t
  rw [← hK] at hofeq
  have hbad : ∀ a ∈ K, ¬ (ofM a).2 = 0 → ofM t = (zeroM, 4) ∧ (ofM a).2 = 4 := by
    intro a ha h0
    refine ⟨?_, (ofM_err a).resolve_left h0⟩
    rw [hofeq]
    unfold allM
    rw [if_neg]
    simp only [List.all_map, List.all_eq_true, Function.comp, beq_iff_eq]
    exact fun h => h0 (h a ha)
  have hfin : (∀ a ∈ K, (ofM a).2 = 0) → ofM t = combM t (K.map fun a => (ofM a).1) := by
    intro h
    rw [hofeq]
    unfold allM
    rw [if_pos (by simp only [List.all_map, List.all_eq_true, Function.comp, beq_iff_eq]; exact h)]
    simp
    rfl
  simp only [RM.enc_eq, has]
  obtain ⟨x0, σ0, hx0, hσ0⟩ : ∃ x0 σ0, x0 = RM.enc (ofM t).1 ∧ σ0 = [[AV.int .i64 (ofM t).2]] := ⟨_, _, rfl, rfl⟩
  rw [show (some (AV.agg [AV.int IntKind.i64 (ofM t).fst.k, AV.int IntKind.i64 (ofM t).fst.i, AV.int IntKind.i64 (ofM t).fst.ty.k, AV.sl (List.map RT.cells (ofM t).fst.ty.as) Own.dead, AV.sl (List.map RM.cells (ofM t).fst.as) Own.dead], [[AV.int IntKind.i64 (ofM t).snd]]) : Option (AV × List (List AV))) = some (x0, σ0) by rw [hx0, hσ0, RM.enc_eq]]
  refine den_w (fn := Tryz.f48) (σ1 := σ0) (by rfl) (by rfl) (by kernel_rfl) rfl (by rfl) (by rw [hσ0]; rfl) (by rw [hσ0]; simp) ?_
  simp
  (repeat (first | refine Wp.seq ?_ | refine Wp.block ?_ | refine Wp.skip ?_ | refine Wp.exit ?_ | refine Wp.ret ?_ | refine thenK_n ?_ | refine thenK_r ?_ | refine thenK_e ?_ | refine blockK_n ?_ | refine blockK_r ?_ | refine blockK_e ?_ | refine blockK_o (by decide) ?_ | (refine Wp.condT ?_ ?_; focus (simp -implicitDefEqProofs <;> fail)) | (refine Wp.condF ?_ ?_; focus (simp -implicitDefEqProofs <;> fail)) | refine Wp.reg (by simp -implicitDefEqProofs; exact ⟨rfl, rfl⟩) ?_ | refine Wp.regA (by simp -implicitDefEqProofs; exact ⟨rfl, rfl⟩) (by rfl) ?_))
  refine Wp.loopF [5, 7, 8, 18, 19, 20, 21, 22, 23, 24, 25, 26, 27, 28, 29, 30, 31, 32, 33, 34, 35] [0] (fun n w c tk => ∃ done rest o, K = done ++ rest ∧ n = rest.length ∧ w 18 = .int .i64 done.length ∧ w 5 = .sl (List.map (RM.cells ∘ fun a => (ofM a).1) done) o ∧ c 0 = [.int .i64 0] ∧ (∀ a ∈ done, (ofM a).2 = 0) ∧ Can tk (List.map (RM.cells ∘ fun a => (ofM a).1) done) o) (K.length) ?_ ?_ ?_ ?_
  · rfl
  · rfl
  · exact ⟨[], K, .full, by simp, rfl, rfl, rfl, rfl, by simp, trivial⟩
  rintro n w c junk tk r σ ⟨done, rest, o, hl, rfl, h18, h5, h0, hdone, hcan⟩ hr hσ
  simp -implicitDefEqProofs [h18, h5, h0] at hr hσ
  subst hr hσ
  rcases rest with _ | ⟨a, rest⟩
  rotate_left
  · have ha : el K done.length = some a := by simp [hl]
    have hlt : done.length < K.length := by simp [hl]
    have hmem : a ∈ K := by simp [hl]
    have hw : IntKind.i64.wrap ((done.length : Int) + 1) = done.length + 1 := IntWalk.i64_in _ (by omega)
    have hia := ihc a hmem
    by_cases he : (ofM a).2 = 0
    · obtain ⟨o', tk', happ, hcan'⟩ := can_app hcan 5 (by decide) (by simp) (by simp; omega)
      simp only [he] at hia
      (repeat (first | refine Wp.seq ?_ | refine Wp.block ?_ | refine Wp.skip ?_ | refine Wp.exit ?_ | refine Wp.ret ?_ | refine thenK_n ?_ | refine thenK_r ?_ | refine thenK_e ?_ | refine blockK_n ?_ | refine blockK_r ?_ | refine blockK_e ?_ | refine blockK_o (by decide) ?_ | (refine Wp.condT ?_ ?_; focus (simp -implicitDefEqProofs [ha, hlt, hw, happ, hia] <;> fail)) | (refine Wp.condF ?_ ?_; focus (simp -implicitDefEqProofs [ha, hlt, hw, happ, hia] <;> fail)) | refine Wp.reg (by simp -implicitDefEqProofs [ha, hlt, hw, happ, hia]; exact ⟨rfl, rfl⟩) ?_ | refine Wp.regA (by simp -implicitDefEqProofs [ha, hlt, hw, happ, hia]; exact ⟨rfl, rfl⟩) (by rfl) ?_))
      refine ⟨by simp, ⟨_, by simp -implicitDefEqProofs; rfl⟩, rest.length, by simp, done ++ [a], rest, o', by simp [hl], rfl, by simp, by simp, by simp, by simp; exact fun x hx => hx.elim (hdone x) (fun e => e ▸ he), by simpa using hcan' _⟩
    · obtain ⟨hb1, hb2⟩ := hbad a hmem he
      rw [hb1] at hx0 hσ0
      simp only [hb2] at hia
      subst hx0 hσ0
      (repeat (first | refine Wp.seq ?_ | refine Wp.block ?_ | refine Wp.skip ?_ | refine Wp.exit ?_ | refine Wp.ret ?_ | refine thenK_n ?_ | refine thenK_r ?_ | refine thenK_e ?_ | refine blockK_n ?_ | refine blockK_r ?_ | refine blockK_e ?_ | refine blockK_o (by decide) ?_ | (refine Wp.condT ?_ ?_; focus (simp -implicitDefEqProofs [ha, hlt, hw, hia] <;> fail)) | (refine Wp.condF ?_ ?_; focus (simp -implicitDefEqProofs [ha, hlt, hw, hia] <;> fail)) | refine Wp.reg (by simp -implicitDefEqProofs [ha, hlt, hw, hia]; exact ⟨rfl, rfl⟩) ?_ | refine Wp.regA (by simp -implicitDefEqProofs [ha, hlt, hw, hia]; exact ⟨rfl, rfl⟩) (by rfl) ?_))
      (apply endK_r; (focus (simp -implicitDefEqProofs [Tryz.f48, zeroM]; try rfl)); (focus (intro g; simp -implicitDefEqProofs [Tryz.f48, zeroM])); exact ⟨_, rfl⟩)
  simp at hl
  subst hl
  have hcomb := hfin hdone
  rw [hcomb] at hx0 hσ0
  have hgd : ∀ a ∈ K, ((ofM a).1).good (b + 70 * 4096) := hgood
  clear ih ihc hbad hfin hofeq hgood hdone hcan h18 h5 h0
  have hty := Tm.small_ty hs
  subst hK
  cases t with
  | var i =>
    simp only [combM, Tm.kids, List.map_nil] at hx0 hσ0
    subst hx0 hσ0
    simp [Tm.raw, Tm.kids]
    (repeat (first | refine Wp.seq ?_ | refine Wp.block ?_ | refine Wp.skip ?_ | refine Wp.exit ?_ | refine Wp.ret ?_ | refine thenK_n ?_ | refine thenK_r ?_ | refine thenK_e ?_ | refine blockK_n ?_ | refine blockK_r ?_ | refine blockK_e ?_ | refine blockK_o (by decide) ?_ | (refine Wp.condT ?_ ?_; focus (simp -implicitDefEqProofs <;> fail)) | (refine Wp.condF ?_ ?_; focus (simp -implicitDefEqProofs <;> fail)) | refine Wp.reg (by simp -implicitDefEqProofs; exact ⟨rfl, rfl⟩) ?_ | refine Wp.regA (by simp -implicitDefEqProofs; exact ⟨rfl, rfl⟩) (by rfl) ?_))
    (apply endK_r; (focus (simp -implicitDefEqProofs [Tryz.f48, varM]; try rfl)); (focus (intro g; simp -implicitDefEqProofs [Tryz.f48, varM])); exact ⟨_, rfl⟩)
  | nil =>
    simp only [combM, Tm.kids, List.map_nil] at hx0 hσ0
    subst hx0 hσ0
    simp [Tm.raw, Tm.kids]
    (repeat (first | refine Wp.seq ?_ | refine Wp.block ?_ | refine Wp.skip ?_ | refine Wp.exit ?_ | refine Wp.ret ?_ | refine thenK_n ?_ | refine thenK_r ?_ | refine thenK_e ?_ | refine blockK_n ?_ | refine blockK_r ?_ | refine blockK_e ?_ | refine blockK_o (by decide) ?_ | (refine Wp.condT ?_ ?_; focus (simp -implicitDefEqProofs <;> fail)) | (refine Wp.condF ?_ ?_; focus (simp -implicitDefEqProofs <;> fail)) | refine Wp.reg (by simp -implicitDefEqProofs; exact ⟨rfl, rfl⟩) ?_ | refine Wp.regA (by simp -implicitDefEqProofs; exact ⟨rfl, rfl⟩) (by rfl) ?_))
    (apply endK_r; (focus (simp -implicitDefEqProofs [Tryz.f48]; try rfl)); (focus (intro g; simp -implicitDefEqProofs [Tryz.f48])); exact ⟨_, rfl⟩)
  | zero =>
    have c1 := mjPlain_c (E := E) (e := 0) (k := 4) (l := []) (by simp [RM.nodes_mk, RT.nodes_mk])
    simp only [combM, Tm.kids, List.map_nil, Tm.raw, RM.k_mk] at hx0 hσ0
    simp at c1 hx0 hσ0
    subst hx0 hσ0
    simp [Tm.raw, Tm.kids]
    (repeat (first | refine Wp.seq ?_ | refine Wp.block ?_ | refine Wp.skip ?_ | refine Wp.exit ?_ | refine Wp.ret ?_ | refine thenK_n ?_ | refine thenK_r ?_ | refine thenK_e ?_ | refine blockK_n ?_ | refine blockK_r ?_ | refine blockK_e ?_ | refine blockK_o (by decide) ?_ | (refine Wp.condT ?_ ?_; focus (simp -implicitDefEqProofs [c1] <;> fail)) | (refine Wp.condF ?_ ?_; focus (simp -implicitDefEqProofs [c1] <;> fail)) | refine Wp.reg (by simp -implicitDefEqProofs [c1]; exact ⟨rfl, rfl⟩) ?_ | refine Wp.regA (by simp -implicitDefEqProofs [c1]; exact ⟨rfl, rfl⟩) (by rfl) ?_))
    (apply endK_r; (focus (simp -implicitDefEqProofs [Tryz.f48]; try rfl)); (focus (intro g; simp -implicitDefEqProofs [Tryz.f48])); exact ⟨_, rfl⟩)
  | unit =>
    have c1 := mjPlain_c (E := E) (e := 0) (k := 13) (l := []) (by simp [RM.nodes_mk, RT.nodes_mk])
    simp only [combM, Tm.kids, List.map_nil, Tm.raw, RM.k_mk] at hx0 hσ0
    simp at c1 hx0 hσ0
    subst hx0 hσ0
    simp [Tm.raw, Tm.kids]
    (repeat (first | refine Wp.seq ?_ | refine Wp.block ?_ | refine Wp.skip ?_ | refine Wp.exit ?_ | refine Wp.ret ?_ | refine thenK_n ?_ | refine thenK_r ?_ | refine thenK_e ?_ | refine blockK_n ?_ | refine blockK_r ?_ | refine blockK_e ?_ | refine blockK_o (by decide) ?_ | (refine Wp.condT ?_ ?_; focus (simp -implicitDefEqProofs [c1] <;> fail)) | (refine Wp.condF ?_ ?_; focus (simp -implicitDefEqProofs [c1] <;> fail)) | refine Wp.reg (by simp -implicitDefEqProofs [c1]; exact ⟨rfl, rfl⟩) ?_ | refine Wp.regA (by simp -implicitDefEqProofs [c1]; exact ⟨rfl, rfl⟩) (by rfl) ?_))
    (apply endK_r; (focus (simp -implicitDefEqProofs [Tryz.f48]; try rfl)); (focus (intro g; simp -implicitDefEqProofs [Tryz.f48])); exact ⟨_, rfl⟩)
  | app f a =>
    simp [Tm.raw, Tm.kids]
    have g1 := hgd f (by simp [Tm.kids])
    have g2 := hgd a (by simp [Tm.kids])
    simp only [combM, Tm.kids, List.map_cons, List.map_nil, Tm.raw, RM.k_mk] at hx0 hσ0
    revert hx0 hσ0 g1 g2
    generalize (ofM f).1 = x
    generalize (ofM a).1 = y
    intro g1 g2 hx0 hσ0
    have c1 := mjPlain_c (E := E) (e := 0) (k := 3) (l := [x, y]) (nodes_two g1 g2)
    simp at c1 hx0 hσ0
    subst hx0 hσ0
    (repeat (first | refine Wp.seq ?_ | refine Wp.block ?_ | refine Wp.skip ?_ | refine Wp.exit ?_ | refine Wp.ret ?_ | refine thenK_n ?_ | refine thenK_r ?_ | refine thenK_e ?_ | refine blockK_n ?_ | refine blockK_r ?_ | refine blockK_e ?_ | refine blockK_o (by decide) ?_ | (refine Wp.condT ?_ ?_; focus (simp -implicitDefEqProofs [c1] <;> fail)) | (refine Wp.condF ?_ ?_; focus (simp -implicitDefEqProofs [c1] <;> fail)) | refine Wp.reg (by simp -implicitDefEqProofs [c1]; exact ⟨rfl, rfl⟩) ?_ | refine Wp.regA (by simp -implicitDefEqProofs [c1]; exact ⟨rfl, rfl⟩) (by rfl) ?_))
    (apply endK_r; (focus (simp -implicitDefEqProofs [Tryz.f48]; try rfl)); (focus (intro g; simp -implicitDefEqProofs [Tryz.f48])); exact ⟨_, rfl⟩)
  | pair f a =>
    simp [Tm.raw, Tm.kids]
    have g1 := hgd f (by simp [Tm.kids])
    have g2 := hgd a (by simp [Tm.kids])
    simp only [combM, Tm.kids, List.map_cons, List.map_nil, Tm.raw, RM.k_mk] at hx0 hσ0
    revert hx0 hσ0 g1 g2
    generalize (ofM f).1 = x
    generalize (ofM a).1 = y
    intro g1 g2 hx0 hσ0
    have c1 := mjPlain_c (E := E) (e := 0) (k := 10) (l := [x, y]) (nodes_two g1 g2)
    simp at c1 hx0 hσ0
    subst hx0 hσ0
    (repeat (first | refine Wp.seq ?_ | refine Wp.block ?_ | refine Wp.skip ?_ | refine Wp.exit ?_ | refine Wp.ret ?_ | refine thenK_n ?_ | refine thenK_r ?_ | refine thenK_e ?_ | refine blockK_n ?_ | refine blockK_r ?_ | refine blockK_e ?_ | refine blockK_o (by decide) ?_ | (refine Wp.condT ?_ ?_; focus (simp -implicitDefEqProofs [c1] <;> fail)) | (refine Wp.condF ?_ ?_; focus (simp -implicitDefEqProofs [c1] <;> fail)) | refine Wp.reg (by simp -implicitDefEqProofs [c1]; exact ⟨rfl, rfl⟩) ?_ | refine Wp.regA (by simp -implicitDefEqProofs [c1]; exact ⟨rfl, rfl⟩) (by rfl) ?_))
    (apply endK_r; (focus (simp -implicitDefEqProofs [Tryz.f48]; try rfl)); (focus (intro g; simp -implicitDefEqProofs [Tryz.f48])); exact ⟨_, rfl⟩)
  | succ a =>
    simp [Tm.raw, Tm.kids]
    have g1 := hgd a (by simp [Tm.kids])
    simp only [combM, Tm.kids, List.map_cons, List.map_nil, Tm.raw, RM.k_mk] at hx0 hσ0
    revert hx0 hσ0 g1
    generalize (ofM a).1 = x
    intro g1 hx0 hσ0
    have c1 := mjPlain_c (E := E) (e := 0) (k := 5) (l := [x]) (nodes_one g1)
    simp at c1 hx0 hσ0
    subst hx0 hσ0
    (repeat (first | refine Wp.seq ?_ | refine Wp.block ?_ | refine Wp.skip ?_ | refine Wp.exit ?_ | refine Wp.ret ?_ | refine thenK_n ?_ | refine thenK_r ?_ | refine thenK_e ?_ | refine blockK_n ?_ | refine blockK_r ?_ | refine blockK_e ?_ | refine blockK_o (by decide) ?_ | (refine Wp.condT ?_ ?_; focus (simp -implicitDefEqProofs [c1] <;> fail)) | (refine Wp.condF ?_ ?_; focus (simp -implicitDefEqProofs [c1] <;> fail)) | refine Wp.reg (by simp -implicitDefEqProofs [c1]; exact ⟨rfl, rfl⟩) ?_ | refine Wp.regA (by simp -implicitDefEqProofs [c1]; exact ⟨rfl, rfl⟩) (by rfl) ?_))
    (apply endK_r; (focus (simp -implicitDefEqProofs [Tryz.f48]; try rfl)); (focus (intro g; simp -implicitDefEqProofs [Tryz.f48])); exact ⟨_, rfl⟩)
  | fst a =>
    simp [Tm.raw, Tm.kids]
    have g1 := hgd a (by simp [Tm.kids])
    simp only [combM, Tm.kids, List.map_cons, List.map_nil, Tm.raw, RM.k_mk] at hx0 hσ0
    revert hx0 hσ0 g1
    generalize (ofM a).1 = x
    intro g1 hx0 hσ0
    have c1 := mjPlain_c (E := E) (e := 0) (k := 11) (l := [x]) (nodes_one g1)
    simp at c1 hx0 hσ0
    subst hx0 hσ0
    (repeat (first | refine Wp.seq ?_ | refine Wp.block ?_ | refine Wp.skip ?_ | refine Wp.exit ?_ | refine Wp.ret ?_ | refine thenK_n ?_ | refine thenK_r ?_ | refine thenK_e ?_ | refine blockK_n ?_ | refine blockK_r ?_ | refine blockK_e ?_ | refine blockK_o (by decide) ?_ | (refine Wp.condT ?_ ?_; focus (simp -implicitDefEqProofs [c1] <;> fail)) | (refine Wp.condF ?_ ?_; focus (simp -implicitDefEqProofs [c1] <;> fail)) | refine Wp.reg (by simp -implicitDefEqProofs [c1]; exact ⟨rfl, rfl⟩) ?_ | refine Wp.regA (by simp -implicitDefEqProofs [c1]; exact ⟨rfl, rfl⟩) (by rfl) ?_))
    (apply endK_r; (focus (simp -implicitDefEqProofs [Tryz.f48]; try rfl)); (focus (intro g; simp -implicitDefEqProofs [Tryz.f48])); exact ⟨_, rfl⟩)
  | snd a =>
    simp [Tm.raw, Tm.kids]
    have g1 := hgd a (by simp [Tm.kids])
    simp only [combM, Tm.kids, List.map_cons, List.map_nil, Tm.raw, RM.k_mk] at hx0 hσ0
    revert hx0 hσ0 g1
    generalize (ofM a).1 = x
    intro g1 hx0 hσ0
    have c1 := mjPlain_c (E := E) (e := 0) (k := 12) (l := [x]) (nodes_one g1)
    simp at c1 hx0 hσ0
    subst hx0 hσ0
    (repeat (first | refine Wp.seq ?_ | refine Wp.block ?_ | refine Wp.skip ?_ | refine Wp.exit ?_ | refine Wp.ret ?_ | refine thenK_n ?_ | refine thenK_r ?_ | refine thenK_e ?_ | refine blockK_n ?_ | refine blockK_r ?_ | refine blockK_e ?_ | refine blockK_o (by decide) ?_ | (refine Wp.condT ?_ ?_; focus (simp -implicitDefEqProofs [c1] <;> fail)) | (refine Wp.condF ?_ ?_; focus (simp -implicitDefEqProofs [c1] <;> fail)) | refine Wp.reg (by simp -implicitDefEqProofs [c1]; exact ⟨rfl, rfl⟩) ?_ | refine Wp.regA (by simp -implicitDefEqProofs [c1]; exact ⟨rfl, rfl⟩) (by rfl) ?_))
    (apply endK_r; (focus (simp -implicitDefEqProofs [Tryz.f48]; try rfl)); (focus (intro g; simp -implicitDefEqProofs [Tryz.f48])); exact ⟨_, rfl⟩)
  | lam s a =>
    simp [Tm.raw, Tm.kids]
    have g1 := hgd a (by simp [Tm.kids])
    simp only [Tm.tyN] at hty
    simp only [combM, Tm.kids, List.map_cons, List.map_nil] at hx0 hσ0
    revert hx0 hσ0 g1
    generalize (ofM a).1 = x
    intro g1 hx0 hσ0
    have c0 := bare1_c (E := E) (s := s) (by omega)
    have c1 := mjNode_c (E := E) (e := 0) (k := 2) (m := s.star.raw.k) (us := s.star.raw.as) (l := [x]) (nodes_oneT (by simp [Ty.raw_nodes, Ty.star_size]; omega) g1)
    simp at c1 hx0 hσ0
    subst hx0 hσ0
    (repeat (first | refine Wp.seq ?_ | refine Wp.block ?_ | refine Wp.skip ?_ | refine Wp.exit ?_ | refine Wp.ret ?_ | refine thenK_n ?_ | refine thenK_r ?_ | refine thenK_e ?_ | refine blockK_n ?_ | refine blockK_r ?_ | refine blockK_e ?_ | refine blockK_o (by decide) ?_ | (refine Wp.condT ?_ ?_; focus (simp -implicitDefEqProofs [c0, c1] <;> fail)) | (refine Wp.condF ?_ ?_; focus (simp -implicitDefEqProofs [c0, c1] <;> fail)) | refine Wp.reg (by simp -implicitDefEqProofs [c0, c1]; exact ⟨rfl, rfl⟩) ?_ | refine Wp.regA (by simp -implicitDefEqProofs [c0, c1]; exact ⟨rfl, rfl⟩) (by rfl) ?_))
    (apply endK_r; (focus (simp -implicitDefEqProofs [Tryz.f48]; try rfl)); (focus (intro g; simp -implicitDefEqProofs [Tryz.f48])); exact ⟨_, rfl⟩)
  | cons f a =>
    simp [Tm.raw, Tm.kids]
    have g1 := hgd f (by simp [Tm.kids])
    have g2 := hgd a (by simp [Tm.kids])
    simp only [combM, Tm.kids, List.map_cons, List.map_nil] at hx0 hσ0
    revert hx0 hσ0 g1 g2
    generalize (ofM f).1 = x
    generalize (ofM a).1 = y
    intro g1 g2 hx0 hσ0
    obtain ⟨p, hp⟩ : ∃ p, p = nodeM 0 5 noTy [y] := ⟨_, rfl⟩
    rw [← hp] at hx0 hσ0
    have gp : p.1.good (b + 70 * 4096) := by rw [hp]; exact good_node (by omega) (by rw [noTy_nodes]; omega) (by intro z hz; simp at hz; subst hz; exact g2)
    have c0 := mjPlain_c (E := E) (e := 0) (k := 5) (l := [y]) (nodes_one g2)
    have c1 := mjMax_c (E := E) (e := p.2) (b := b + 70 * 4096) (s := .nat) (k := x.k) (i := x.i) (m := x.ty.k) (us := x.ty.as) (ts := x.as) (k' := p.1.k) (i' := p.1.i) (m' := p.1.ty.k) (us' := p.1.ty.as) (ts' := p.1.as) (by omega) (by omega) (by simp [Ty.size]) (by simpa using g1) (by simpa using gp)
    have e0 : nodeM 0 5 (RT.mk 0 []) [y] = p := hp.symm
    simp [e0] at c0
    simp at c1 hx0 hσ0
    simp [Ty.raw] at c1
    subst hx0 hσ0
    clear hp e0
    (repeat (first | refine Wp.seq ?_ | refine Wp.block ?_ | refine Wp.skip ?_ | refine Wp.exit ?_ | refine Wp.ret ?_ | refine thenK_n ?_ | refine thenK_r ?_ | refine thenK_e ?_ | refine blockK_n ?_ | refine blockK_r ?_ | refine blockK_e ?_ | refine blockK_o (by decide) ?_ | (refine Wp.condT ?_ ?_; focus (simp -implicitDefEqProofs [c0, c1, scNat_c] <;> fail)) | (refine Wp.condF ?_ ?_; focus (simp -implicitDefEqProofs [c0, c1, scNat_c] <;> fail)) | refine Wp.reg (by simp -implicitDefEqProofs [c0, c1, scNat_c]; exact ⟨rfl, rfl⟩) ?_ | refine Wp.regA (by simp -implicitDefEqProofs [c0, c1, scNat_c]; exact ⟨rfl, rfl⟩) (by rfl) ?_))
    (apply endK_r; (focus (simp -implicitDefEqProofs [Tryz.f48]; try rfl)); (focus (intro g; simp -implicitDefEqProofs [Tryz.f48])); exact ⟨_, rfl⟩)
  | recn s f a q =>
    simp [Tm.raw, Tm.kids]
    have g1 := hgd f (by simp [Tm.kids])
    have g2 := hgd a (by simp [Tm.kids])
    have g3 := hgd q (by simp [Tm.kids])
    simp only [Tm.tyN] at hty
    simp only [combM, Tm.kids, List.map_cons, List.map_nil] at hx0 hσ0
    revert hx0 hσ0 g1 g2 g3
    generalize (ofM f).1 = x
    generalize (ofM a).1 = y
    generalize (ofM q).1 = z
    intro g1 g2 g3 hx0 hσ0
    obtain ⟨y', hy'⟩ : ∃ p, p = y.lift 2 0 := ⟨_, rfl⟩
    rw [← hy'] at hx0 hσ0
    obtain ⟨p1, hp1⟩ : ∃ p, p = callM 0 y' [varM 1, varM 0] := ⟨_, rfl⟩
    rw [← hp1] at hx0 hσ0
    obtain ⟨p2, hp2⟩ : ∃ p, p = stepM s.star p1.2 p1.1 := ⟨_, rfl⟩
    rw [← hp2] at hx0 hσ0
    have gy : y'.good (b + 70 * 4096 + 2) := by rw [hy']; exact g2.lift (by omega) 0
    have gv : ∀ z ∈ [varM 1, varM 0], z.good (b + 70 * 4096 + 2) := by intro z hz; simp at hz; rcases hz with rfl | rfl <;> exact good_var (by omega)
    have gp1 : p1.1.good (b + 70 * 4096 + 2) := by rw [hp1]; exact good_call (by omega) _ _ _ gy gv
    have gp2 : p2.1.good (b + 70 * 4096 + 70) := by rw [hp2]; exact (good_step (by omega) (by rw [Ty.star_size]; exact hty) gp1).mono (by rw [Ty.star_size]; omega)
    have c0 := bare1_c (E := E) (s := s) (by omega)
    have l1 := scLift_c (E := E) (n := 2) (c := 0) (k := y.k) (i := y.i) (m := y.ty.k) (us := y.ty.as) (ts := y.as) (by omega) (by have := g2.nodes; simp; omega) (by simpa using RM.idx_mono (by omega) y g2.2.1) (by omega)
    have c1 := mjCall_c (E := E) (e := 0) (k := y'.k) (i := y'.i) (m := y'.ty.k) (us := y'.ty.as) (ts := y'.as) (l := [varM 1, varM 0]) (b := b + 70 * 4096 + 2) (by omega) (by simpa using gy) gv (by simp)
    have c2 := mjStep_c (E := E) (e := p1.2) (b := b + 70 * 4096 + 2) (s := s.star) (k := p1.1.k) (i := p1.1.i) (m := p1.1.ty.k) (us := p1.1.ty.as) (ts := p1.1.as) (by omega) (by omega) (by rw [Ty.star_size]; exact hty) (by simpa using gp1)
    have c3 := mjNode_c (E := E) (e := p2.2) (k := 6) (m := s.star.raw.k) (us := s.star.raw.as) (l := [x, p2.1, z]) (by have := g1.nodes; have := gp2.nodes; have := g3.nodes; have := Ty.star_size s; have := Ty.raw_nodes s.star; simp only [RM.nodes_mk, RT.eta, List.map_cons, List.map_nil, List.sum_cons, List.sum_nil]; omega)
    simp [← hy'] at l1
    simp [← hp1] at c1
    simp [varM] at c1
    simp [← hp2] at c2
    simp at c3 hx0 hσ0
    subst hx0 hσ0
    clear hy' hp1 hp2
    (repeat (first | refine Wp.seq ?_ | refine Wp.block ?_ | refine Wp.skip ?_ | refine Wp.exit ?_ | refine Wp.ret ?_ | refine thenK_n ?_ | refine thenK_r ?_ | refine thenK_e ?_ | refine blockK_n ?_ | refine blockK_r ?_ | refine blockK_e ?_ | refine blockK_o (by decide) ?_ | (refine Wp.condT ?_ ?_; focus (simp -implicitDefEqProofs [c0, l1, scVar_c, c1, c2, c3] <;> fail)) | (refine Wp.condF ?_ ?_; focus (simp -implicitDefEqProofs [c0, l1, scVar_c, c1, c2, c3] <;> fail)) | refine Wp.reg (by simp -implicitDefEqProofs [c0, l1, scVar_c, c1, c2, c3]; exact ⟨rfl, rfl⟩) ?_ | refine Wp.regA (by simp -implicitDefEqProofs [c0, l1, scVar_c, c1, c2, c3]; exact ⟨rfl, rfl⟩) (by rfl) ?_))
    (apply endK_r; (focus (simp -implicitDefEqProofs [Tryz.f48]; try rfl)); (focus (intro g; simp -implicitDefEqProofs [Tryz.f48])); exact ⟨_, rfl⟩)
  | fold s f a q =>
    simp [Tm.raw, Tm.kids]
    have g1 := hgd f (by simp [Tm.kids])
    have g2 := hgd a (by simp [Tm.kids])
    have g3 := hgd q (by simp [Tm.kids])
    simp only [Tm.tyN] at hty
    simp only [combM, Tm.kids, List.map_cons, List.map_nil] at hx0 hσ0
    revert hx0 hσ0 g1 g2 g3
    generalize (ofM f).1 = x
    generalize (ofM a).1 = y
    generalize (ofM q).1 = z
    intro g1 g2 g3 hx0 hσ0
    obtain ⟨y', hy'⟩ : ∃ p, p = y.lift 3 0 := ⟨_, rfl⟩
    rw [← hy'] at hx0 hσ0
    obtain ⟨x', hx'⟩ : ∃ p, p = x.lift 1 0 := ⟨_, rfl⟩
    rw [← hx'] at hx0 hσ0
    obtain ⟨p1, hp1⟩ : ∃ p, p = callM 0 y' [varM 2, varM 2, varM 0] := ⟨_, rfl⟩
    rw [← hp1] at hx0 hσ0
    obtain ⟨p2, hp2⟩ : ∃ p, p = stepM s.star p1.2 p1.1 := ⟨_, rfl⟩
    rw [← hp2] at hx0 hσ0
    obtain ⟨p3, hp3⟩ : ∃ p, p = nodeM p2.2 6 s.star.raw [x', p2.1, varM 0] := ⟨_, rfl⟩
    rw [← hp3] at hx0 hσ0
    obtain ⟨p4, hp4⟩ : ∃ p, p = nodeM p3.2 2 Ty.nat.raw [p3.1] := ⟨_, rfl⟩
    rw [← hp4] at hx0 hσ0
    have gy : y'.good (b + 70 * 4096 + 3) := by rw [hy']; exact g2.lift (by omega) 0
    have gx : x'.good (b + 70 * 4096 + 70) := by rw [hx']; exact (g1.lift (n := 1) (by omega) 0).mono (by omega)
    have gv : ∀ z ∈ [varM 2, varM 2, varM 0], z.good (b + 70 * 4096 + 3) := by intro z hz; simp at hz; rcases hz with rfl | rfl <;> exact good_var (by omega)
    have gp1 : p1.1.good (b + 70 * 4096 + 3) := by rw [hp1]; exact good_call (by omega) _ _ _ gy gv
    have gp2 : p2.1.good (b + 70 * 4096 + 70) := by rw [hp2]; exact (good_step (by omega) (by rw [Ty.star_size]; exact hty) gp1).mono (by rw [Ty.star_size]; omega)
    have gp3 : p3.1.good (b + 70 * 4096 + 70) := by
      rw [hp3]
      refine good_node (by omega) (by rw [Ty.raw_nodes, Ty.star_size]; exact hty) ?_
      intro w hw
      simp only [List.mem_cons, List.not_mem_nil, or_false] at hw
      rcases hw with rfl | rfl | rfl
      · exact gx
      · exact gp2
      · exact good_var (by omega)
    have gp4 : p4.1.good (b + 70 * 4096 + 70) := by
      rw [hp4]
      refine good_node (by omega) (by simp [Ty.raw, RT.nodes_mk]) ?_
      intro w hw
      simp only [List.mem_cons, List.not_mem_nil, or_false] at hw
      subst hw
      exact gp3
    have c0 := bare1_c (E := E) (s := s) (by omega)
    have l1 := scLift_c (E := E) (n := 3) (c := 0) (k := y.k) (i := y.i) (m := y.ty.k) (us := y.ty.as) (ts := y.as) (by omega) (by have := g2.nodes; simp; omega) (by simpa using RM.idx_mono (by omega) y g2.2.1) (by omega)
    have l2 := scLift_c (E := E) (n := 1) (c := 0) (k := x.k) (i := x.i) (m := x.ty.k) (us := x.ty.as) (ts := x.as) (by omega) (by have := g1.nodes; simp; omega) (by simpa using RM.idx_mono (by omega) x g1.2.1) (by omega)
    have c1 := mjCall_c (E := E) (e := 0) (k := y'.k) (i := y'.i) (m := y'.ty.k) (us := y'.ty.as) (ts := y'.as) (l := [varM 2, varM 2, varM 0]) (b := b + 70 * 4096 + 3) (by omega) (by simpa using gy) gv (by simp)
    have c2 := mjStep_c (E := E) (e := p1.2) (b := b + 70 * 4096 + 3) (s := s.star) (k := p1.1.k) (i := p1.1.i) (m := p1.1.ty.k) (us := p1.1.ty.as) (ts := p1.1.as) (by omega) (by omega) (by rw [Ty.star_size]; exact hty) (by simpa using gp1)
    have c3 := mjNode_c (E := E) (e := p2.2) (k := 6) (m := s.star.raw.k) (us := s.star.raw.as) (l := [x', p2.1, varM 0]) (by have := gx.nodes; have := gp2.nodes; have := Ty.star_size s; have := Ty.raw_nodes s.star; simp [RM.nodes_mk, varM, RT.nodes_mk]; omega)
    have c4 := mjNode_c (E := E) (e := p3.2) (k := 2) (m := 1) (us := []) (l := [p3.1]) (nodes_oneT (by simp [RT.nodes_mk]) gp3)
    have c5 := mjCall_c (E := E) (e := p4.2) (k := p4.1.k) (i := p4.1.i) (m := p4.1.ty.k) (us := p4.1.ty.as) (ts := p4.1.as) (l := [z]) (b := b + 70 * 4096 + 70) (by omega) (by simpa using gp4) (by intro w hw; simp at hw; subst hw; exact g3.mono (by omega)) (by simp)
    have e4 : nodeM p3.2 2 (RT.mk 1 []) [p3.1] = p4 := hp4.symm
    simp [← hy'] at l1
    simp [← hx'] at l2
    simp [← hp1] at c1
    simp [varM] at c1
    simp [← hp2] at c2
    simp [← hp3] at c3
    simp [varM] at c3
    simp [e4] at c4
    simp at c5 hx0 hσ0
    subst hx0 hσ0
    clear hy' hx' hp1 hp2 hp3 hp4 e4
    (repeat (first | refine Wp.seq ?_ | refine Wp.block ?_ | refine Wp.skip ?_ | refine Wp.exit ?_ | refine Wp.ret ?_ | refine thenK_n ?_ | refine thenK_r ?_ | refine thenK_e ?_ | refine blockK_n ?_ | refine blockK_r ?_ | refine blockK_e ?_ | refine blockK_o (by decide) ?_ | (refine Wp.condT ?_ ?_; focus (simp -implicitDefEqProofs [c0, l1, l2, scVar_c, scNat_c, c1, c2, c3, c4, c5] <;> fail)) | (refine Wp.condF ?_ ?_; focus (simp -implicitDefEqProofs [c0, l1, l2, scVar_c, scNat_c, c1, c2, c3, c4, c5] <;> fail)) | refine Wp.reg (by simp -implicitDefEqProofs [c0, l1, l2, scVar_c, scNat_c, c1, c2, c3, c4, c5]; exact ⟨rfl, rfl⟩) ?_ | refine Wp.regA (by simp -implicitDefEqProofs [c0, l1, l2, scVar_c, scNat_c, c1, c2, c3, c4, c5]; exact ⟨rfl, rfl⟩) (by rfl) ?_))
    (apply endK_r; (focus (simp -implicitDefEqProofs [Tryz.f48]; try rfl)); (focus (intro g; simp -implicitDefEqProofs [Tryz.f48])); exact ⟨_, rfl⟩)
end M
end Go.Proofs.YthclcchnodjjpaaGreatDoor
/- majorant.run, majorant.Term, majorant.Type. -/
set_option linter.unusedVariables false
set_option linter.unusedSimpArgs false
set_option maxRecDepth 10000
set_option maxHeartbeats 4000000
namespace Go.Proofs.YthclcchnodjjpaaGreatDoor
namespace M
attribute [local irreducible] Wp thenK blockK endK
variable {E : Oracle}
open T (Ty Tm noTy)
theorem mjTerm1 (t : Tm) {b : Nat} (hb : 3 ≤ b) (hb2 : b ≤ 400000000) (hn : t.size ≤ 4096) (hs : t.small = true) (hi : t.idx b = true) :
    den X E 47 [.loc 0 0, .rp t.raw.cells] [[.int .i64 0]] = some ((ofM t).1.enc, [[.int .i64 (ofM t).2]]) := by
  have c1 : ∀ (g b : Nat) (S : St) (o1 o2 : Own), sd S.σ b = some [.int .i64 0] → callT (X.at g) (den X E) S 48 [.loc b 0, .agg [.int .i64 t.raw.k, .int .i64 t.raw.i, .int .i64 t.raw.ty.k, .sl (List.map RT.cells t.raw.ty.as) o1, .sl (List.map RM.cells t.raw.as) o2]] = some (.agg [.int .i64 (ofM t).1.k, .int .i64 (ofM t).1.i, .int .i64 (ofM t).1.ty.k, .sl (List.map RT.cells (ofM t).1.ty.as) .dead, .sl (List.map RM.cells (ofM t).1.as) .dead], { S with σ := S.σ.set b [.int .i64 (ofM t).2] }) := by
    intros
    rename_i hS
    simpa using call_upD (cf := X.at _) (fn := Tryz.f48) (args' := [_]) (by kernel_rfl) rfl (by rfl) (by rfl) (by simp) (by simp; try rfl) (by simp) (by simp) (mjOf b hb hb2 t.size t (Nat.le_refl _) hn hs hi) _ hS
  refine den_w (fn := Tryz.f47) (σ1 := [[.int .i64 (ofM t).2]]) (by rfl) (by rfl) (by kernel_rfl) rfl (by rfl) (by rfl) (by simp -implicitDefEqProofs) ?_
  simp -implicitDefEqProofs
  (repeat (first | refine Wp.seq ?_ | refine Wp.block ?_ | refine Wp.skip ?_ | refine Wp.exit ?_ | refine Wp.ret ?_ | refine thenK_n ?_ | refine thenK_r ?_ | refine thenK_e ?_ | refine blockK_n ?_ | refine blockK_r ?_ | refine blockK_e ?_ | refine blockK_o (by decide) ?_ | (refine Wp.condT ?_ ?_; focus (simp -implicitDefEqProofs [c1] <;> fail)) | (refine Wp.condF ?_ ?_; focus (simp -implicitDefEqProofs [c1] <;> fail)) | refine Wp.reg (by simp -implicitDefEqProofs [c1]; exact ⟨rfl, rfl⟩) ?_ | refine Wp.regA (by simp -implicitDefEqProofs [c1]; exact ⟨rfl, rfl⟩) (by rfl) ?_))
  (apply endK_r; (focus (simp -implicitDefEqProofs [Tryz.f47]; try rfl)); (focus (intro g; simp -implicitDefEqProofs [Tryz.f47])); exact ⟨_, rfl⟩)
def runR (t : Tm) : AV := if (ofM t).2 = 0 then .tup [(ofM t).1.enc, .int .i64 0] else .tup [zeroM.enc, .int .i64 4]
theorem mjRun (t : Tm) {b : Nat} (hb : 3 ≤ b) (hb2 : b ≤ 400000000) (hn : t.size ≤ 4096) (hs : t.small = true) (hi : t.idx b = true) :
    den X E 46 [.fn 47 [.rp t.raw.cells]] [] = some (runR t, []) := by
  have c1 : ∀ (g b : Nat) (S : St), sd S.σ b = some [.int .i64 0] → callT (X.at g) (den X E) S 47 [.loc b 0, .rp [.int .i64 t.raw.k, .int .i64 t.raw.i, .int .i64 t.raw.ty.k, .sl (List.map RT.cells t.raw.ty.as) .dead, .sl (List.map RM.cells t.raw.as) .dead]] = some (.agg [.int .i64 (ofM t).1.k, .int .i64 (ofM t).1.i, .int .i64 (ofM t).1.ty.k, .sl (List.map RT.cells (ofM t).1.ty.as) .dead, .sl (List.map RM.cells (ofM t).1.as) .dead], { S with σ := S.σ.set b [.int .i64 (ofM t).2] }) := by
    intros
    rename_i hS
    simpa using call_upD (cf := X.at _) (fn := Tryz.f47) (args' := [_]) (by kernel_rfl) rfl (by rfl) (by rfl) (by simp) (by simp; try rfl) (by simp) (by simp) (mjTerm1 t hb hb2 hn hs hi) _ hS
  by_cases he : (ofM t).2 = 0
  · have hr : runR t = .tup [(ofM t).1.enc, .int .i64 0] := by simp only [runR, if_pos he]
    rw [hr]
    simp only [he] at c1
    refine den_w0 (fn := Tryz.f46) (by rfl) (by rfl) (by kernel_rfl) rfl (by rfl) ?_
    simp -implicitDefEqProofs
    (repeat (first | refine Wp.seq ?_ | refine Wp.block ?_ | refine Wp.skip ?_ | refine Wp.exit ?_ | refine Wp.ret ?_ | refine thenK_n ?_ | refine thenK_r ?_ | refine thenK_e ?_ | refine blockK_n ?_ | refine blockK_r ?_ | refine blockK_e ?_ | refine blockK_o (by decide) ?_ | (refine Wp.condT ?_ ?_; focus (simp -implicitDefEqProofs [c1] <;> fail)) | (refine Wp.condF ?_ ?_; focus (simp -implicitDefEqProofs [c1] <;> fail)) | refine Wp.reg (by simp -implicitDefEqProofs [c1]; exact ⟨rfl, rfl⟩) ?_ | refine Wp.regA (by simp -implicitDefEqProofs [c1]; exact ⟨rfl, rfl⟩) (by rfl) ?_))
    (apply endK_r; (focus (simp -implicitDefEqProofs [Tryz.f46]; try rfl)); (focus (intro g; simp -implicitDefEqProofs [Tryz.f46])); exact ⟨_, rfl⟩)
  · have hr : runR t = .tup [zeroM.enc, .int .i64 4] := by simp only [runR, if_neg he]
    rw [hr]
    simp only [(ofM_err t).resolve_left he] at c1
    refine den_w0 (fn := Tryz.f46) (by rfl) (by rfl) (by kernel_rfl) rfl (by rfl) ?_
    simp -implicitDefEqProofs
    (repeat (first | refine Wp.seq ?_ | refine Wp.block ?_ | refine Wp.skip ?_ | refine Wp.exit ?_ | refine Wp.ret ?_ | refine thenK_n ?_ | refine thenK_r ?_ | refine thenK_e ?_ | refine blockK_n ?_ | refine blockK_r ?_ | refine blockK_e ?_ | refine blockK_o (by decide) ?_ | (refine Wp.condT ?_ ?_; focus (simp -implicitDefEqProofs [c1] <;> fail)) | (refine Wp.condF ?_ ?_; focus (simp -implicitDefEqProofs [c1] <;> fail)) | refine Wp.reg (by simp -implicitDefEqProofs [c1]; exact ⟨rfl, rfl⟩) ?_ | refine Wp.regA (by simp -implicitDefEqProofs [c1]; exact ⟨rfl, rfl⟩) (by rfl) ?_))
    (apply endK_r; (focus (simp -implicitDefEqProofs [Tryz.f46, zeroM]; try rfl)); (focus (intro g; simp -implicitDefEqProofs [Tryz.f46, zeroM])); exact ⟨_, rfl⟩)
theorem call_run (t : Tm) {b' : Nat} (hb : 3 ≤ b') (hb2 : b' ≤ 400000000) (hn : t.size ≤ 4096) (hs : t.small = true) (hi : t.idx b' = true) (g b : Nat) (S : St)
    (hS : sd S.σ b = some [.int .i64 t.raw.k, .int .i64 t.raw.i, .int .i64 t.raw.ty.k, .sl (List.map RT.cells t.raw.ty.as) .dead, .sl (List.map RM.cells t.raw.as) .dead]) :
    callT (X.at g) (den X E) S 46 [.fn 47 [.loc b 0]] = some (runR t, { S with σ := S.σ.set b [] }) := by
  have hP : (X.at g).P.funcs[46]? = some Tryz.f46 := by kernel_rfl
  have hS' : S.σ[b]? = some [.int .i64 t.raw.k, .int .i64 t.raw.i, .int .i64 t.raw.ty.k, .sl (List.map RT.cells t.raw.ty.as) .dead, .sl (List.map RM.cells t.raw.as) .dead] := hS
  have ho : hand (X.at g) (Tryz.f46).params.toList [] S.σ [.fn 47 [.loc b 0]] = some ⟨[.fn 47 [.rp t.raw.cells]], [], S.σ.set b []⟩ := by
    simp [hand, handOne, gives, give, hS', Tryz.f46]
  simp only [callT, hP, Option.bind_some, ho, List.any_nil, Bool.false_eq_true, if_false, List.map_nil, mjRun t hb hb2 hn hs hi, Option.map_some, putBack]

/-- What majorant.Term returns for a valid term. -/
theorem mjTerm (t : Tm) {b' : Nat} (hb : 3 ≤ b') (hb2 : b' ≤ 268435456) (hn : t.size ≤ 4096) (hs : t.small = true) (hi : t.idx b' = true) :
    den X E 13 [t.raw.enc] [] = some (runR t, []) := by
  have hnod : t.raw.nodes ≤ 1000000000 := by have := t.raw_nodes hs; omega
  have he : t.raw.err = 0 := by rw [t.raw_err hs, if_pos hn]
  have hfar : t.raw.near 268435456 = true := RM.near_of_idx _ (RM.idx_mono (b := b') (by omega) _ (by rw [t.raw_idx]; exact hi))
  have c1 := termsCheck_c (E := E) (k := t.raw.k) (i := t.raw.i) (m := t.raw.ty.k) (us := t.raw.ty.as) (ts := t.raw.as) (by simpa using hnod)
  have c2 := far_c (E := E) (k := t.raw.k) (i := t.raw.i) (m := t.raw.ty.k) (us := t.raw.ty.as) (ts := t.raw.as) (by simpa using hnod)
  simp [he] at c1
  simp [hfar] at c2
  have c3 := call_run (E := E) t hb (by omega) hn hs hi
  have hsplit : runR t = .tup [(if (ofM t).2 = 0 then (ofM t).1 else zeroM).enc, .int .i64 (if (ofM t).2 = 0 then 0 else 4)] := by unfold runR; split <;> rfl
  rw [hsplit] at c3 ⊢
  generalize (if (ofM t).2 = 0 then (ofM t).1 else zeroM) = x at c3
  generalize (if (ofM t).2 = 0 then (0 : Int) else 4) = y at c3
  simp at c3
  refine den_w0 (fn := Tryz.f13) (by rfl) (by rfl) (by kernel_rfl) rfl (by rfl) ?_
  simp -implicitDefEqProofs
  (repeat (first | refine Wp.seq ?_ | refine Wp.block ?_ | refine Wp.skip ?_ | refine Wp.exit ?_ | refine Wp.ret ?_ | refine thenK_n ?_ | refine thenK_r ?_ | refine thenK_e ?_ | refine blockK_n ?_ | refine blockK_r ?_ | refine blockK_e ?_ | refine blockK_o (by decide) ?_ | (refine Wp.condT ?_ ?_; focus (simp -implicitDefEqProofs [c1, c2, c3] <;> fail)) | (refine Wp.condF ?_ ?_; focus (simp -implicitDefEqProofs [c1, c2, c3] <;> fail)) | refine Wp.reg (by simp -implicitDefEqProofs [c1, c2, c3]; exact ⟨rfl, rfl⟩) ?_ | refine Wp.regA (by simp -implicitDefEqProofs [c1, c2, c3]; exact ⟨rfl, rfl⟩) (by rfl) ?_))
  (apply endK_r; (focus (simp -implicitDefEqProofs [Tryz.f13]; try rfl)); (focus (intro g; simp -implicitDefEqProofs [Tryz.f13])); exact ⟨_, rfl⟩)

theorem mjType (s : Ty) (hs : s.size ≤ 64) : den X E 15 [s.raw.enc] [] = some (.tup [s.star.raw.enc, .int .i64 0], []) := by
  have c1 := typesCheck_c (E := E) (k := s.raw.k) (ts := s.raw.as) (by simp [Ty.raw_nodes]; omega)
  simp [s.raw_err hs] at c1
  have c2 := bare1_c (E := E) (s := s) (by omega)
  refine den_w0 (fn := Tryz.f15) (by rfl) (by rfl) (by kernel_rfl) rfl (by rfl) ?_
  simp -implicitDefEqProofs
  (repeat (first | refine Wp.seq ?_ | refine Wp.block ?_ | refine Wp.skip ?_ | refine Wp.exit ?_ | refine Wp.ret ?_ | refine thenK_n ?_ | refine thenK_r ?_ | refine thenK_e ?_ | refine blockK_n ?_ | refine blockK_r ?_ | refine blockK_e ?_ | refine blockK_o (by decide) ?_ | (refine Wp.condT ?_ ?_; focus (simp -implicitDefEqProofs [c1, c2] <;> fail)) | (refine Wp.condF ?_ ?_; focus (simp -implicitDefEqProofs [c1, c2] <;> fail)) | refine Wp.reg (by simp -implicitDefEqProofs [c1, c2]; exact ⟨rfl, rfl⟩) ?_ | refine Wp.regA (by simp -implicitDefEqProofs [c1, c2]; exact ⟨rfl, rfl⟩) (by rfl) ?_))
  (apply endK_r; (focus (simp -implicitDefEqProofs [Tryz.f15]; try rfl)); (focus (intro g; simp -implicitDefEqProofs [Tryz.f15])); exact ⟨_, rfl⟩)
theorem mjType_c {s : Ty} (hs : s.size ≤ 64) (g : Nat) (S : St) (o1 : Own) : callT (X.at g) (den X E) S 15 [.agg [.int .i64 s.raw.k, .sl (List.map RT.cells s.raw.as) o1]] = some (.tup [.agg [.int .i64 s.star.raw.k, .sl (List.map RT.cells s.star.raw.as) .dead], .int .i64 0], S) := by
  simpa using call_up (cf := X.at g) (fn := Tryz.f15) (args' := [.agg [.int .i64 s.raw.k, .sl (List.map RT.cells s.raw.as) o1]]) (by kernel_rfl) (by simp) (by simp; try rfl) (mjType s hs) S
end M
end Go.Proofs.YthclcchnodjjpaaGreatDoor
/- THE MAKER OF MAJORANTS: where there is no error, it makes the majorant of the theory. -/
set_option linter.unusedVariables false
set_option linter.unusedSimpArgs false
namespace Go.Proofs.YthclcchnodjjpaaGreatDoor
namespace M
open T (Ty Tm noTy)
theorem nodeZ {e k : Int} {s : RT} {l : List RM} (h : (nodeM e k s l).2 = 0) : e = 0 ∧ (nodeM e k s l).1 = .mk k 0 s l ∧ (RM.mk k 0 s l).count ≤ 4096 := by
  unfold nodeM at h ⊢
  by_cases he : e = 0
  · subst he
    simp only [ne_eq, not_true_eq_false, if_false] at h ⊢
    by_cases hc : (RM.mk k 0 s l).count ≤ 4096
    · simp [hc]
    · simp [hc] at h
  · rw [if_pos he] at h
    exact absurd h he
theorem callZ : ∀ (l : List RM) {e : Int} {f : RM}, (callM e f l).2 = 0 → e = 0 ∧ (callM e f l).1 = l.foldl (fun f a => .mk 3 0 noTy [f, a]) f ∧ (l ≠ [] → (callM e f l).1.count ≤ 4096)
  | [], e, f, h => ⟨h, rfl, fun h => absurd rfl h⟩
  | a :: l, e, f, h => by
    have h' : (callM (nodeM e 3 noTy [f, a]).2 (nodeM e 3 noTy [f, a]).1 l).2 = 0 := h
    obtain ⟨h1, h2, h3⟩ := callZ l h'
    obtain ⟨g1, g2, g3⟩ := nodeZ h1
    have e1 : (callM e f (a :: l)).1 = (callM (nodeM e 3 noTy [f, a]).2 (nodeM e 3 noTy [f, a]).1 l).1 := rfl
    refine ⟨g1, ?_, fun _ => ?_⟩
    · rw [e1, h2, g2]; rfl
    · rw [e1]
      by_cases hl : l = []
      · subst hl
        show (nodeM e 3 noTy [f, a]).1.count ≤ 4096
        rw [g2]; exact g3
      · exact h3 hl
theorem varM_raw (i : Nat) : varM i = (Tm.var i).raw := rfl
theorem maxZ : ∀ (s : Ty) {e : Int} {a b : Tm}, (maxM s e a.raw b.raw).2 = 0 → e = 0 ∧ (maxM s e a.raw b.raw).1 = (T.mx s a b).raw ∧ (maxM s e a.raw b.raw).1.count ≤ 4096
  | .nat, e, a, b, h => by
    unfold maxM at h ⊢
    by_cases he : e = 0
    · subst he
      simp only [ne_eq, not_true_eq_false, if_false] at h ⊢
      obtain ⟨_, h2, h3⟩ := callZ _ h
      exact ⟨trivial, by rw [h2]; rfl, h3 (by simp)⟩
    · rw [if_pos he] at h; exact absurd h he
  | .list, e, a, b, h => by
    unfold maxM at h ⊢
    by_cases he : e = 0
    · subst he; exact ⟨rfl, rfl, by simp [unitM, RM.count_mk]⟩
    · rw [if_pos he] at h; exact absurd h he
  | .unit, e, a, b, h => by
    unfold maxM at h ⊢
    by_cases he : e = 0
    · subst he; exact ⟨rfl, rfl, by simp [unitM, RM.count_mk]⟩
    · rw [if_pos he] at h; exact absurd h he
  | .pair s u, e, a, b, h => by
    unfold maxM at h ⊢
    by_cases he : e = 0
    · subst he
      simp only [ne_eq, not_true_eq_false, if_false] at h ⊢
      obtain ⟨hy, h2, h3⟩ := nodeZ h
      have ha1 : ∀ e', (nodeM e' 11 noTy [a.raw]).2 = 0 → (nodeM e' 11 noTy [a.raw]).1 = (Tm.fst a).raw := fun e' h => (nodeZ h).2.1
      have hb1 : ∀ e', (nodeM e' 11 noTy [b.raw]).2 = 0 → (nodeM e' 11 noTy [b.raw]).1 = (Tm.fst b).raw := fun e' h => (nodeZ h).2.1
      have ha2 : ∀ e', (nodeM e' 12 noTy [a.raw]).2 = 0 → (nodeM e' 12 noTy [a.raw]).1 = (Tm.snd a).raw := fun e' h => (nodeZ h).2.1
      have hb2 : ∀ e', (nodeM e' 12 noTy [b.raw]).2 = 0 → (nodeM e' 12 noTy [b.raw]).1 = (Tm.snd b).raw := fun e' h => (nodeZ h).2.1
      have go : ∀ (w : Ty) (e' k : Int) (x y : RM) (x' y' : Tm), (∀ (e : Int) (a b : Tm), (maxM w e a.raw b.raw).2 = 0 → e = 0 ∧ (maxM w e a.raw b.raw).1 = (T.mx w a b).raw ∧ (maxM w e a.raw b.raw).1.count ≤ 4096) →
          ((nodeM e' k noTy [x]).2 = 0 → (nodeM e' k noTy [x]).1 = x'.raw) → ((nodeM (nodeM e' k noTy [x]).2 k noTy [y]).2 = 0 → (nodeM (nodeM e' k noTy [x]).2 k noTy [y]).1 = y'.raw) →
          ∀ r : RM × Int, (maxM w (nodeM (nodeM e' k noTy [x]).2 k noTy [y]).2 (nodeM e' k noTy [x]).1 (nodeM (nodeM e' k noTy [x]).2 k noTy [y]).1) = r → r.2 = 0 → (∀ e z z', (maxM w e z z').2 = 0 → e = 0) → e' = 0 ∧ r.1 = (T.mx w x' y').raw := by
        intro w e' k x y x' y' ih hx hy' r hr hz herr
        subst hr
        have z1 := herr _ _ _ hz
        have z2 := (nodeZ z1).1
        have z3 := (nodeZ z2).1
        rw [hx z2, hy' z1] at hz ⊢
        exact ⟨z3, (ih _ _ _ hz).2.1⟩
      have herr : ∀ (w : Ty) e z z', (maxM w e z z').2 = 0 → e = 0 := by
        intro w e z z' h
        by_cases he : e = 0
        · exact he
        · exfalso
          cases w <;> (unfold maxM at h; rw [if_pos he] at h; exact he h)
      obtain ⟨e1, r1⟩ := go u _ 12 _ _ (.snd a) (.snd b) (fun e a b h => maxZ u h) (ha2 _) (hb2 _) _ rfl hy (herr u)
      obtain ⟨e2, r2⟩ := go s 0 11 _ _ (.fst a) (.fst b) (fun e a b h => maxZ s h) (ha1 _) (hb1 _) _ rfl e1 (herr s)
      refine ⟨trivial, ?_, by rw [h2]; exact h3⟩
      rw [h2, r1, r2]
      rfl
    · rw [if_pos he] at h; exact absurd h he
  | .fn s u, e, a, b, h => by
    unfold maxM at h ⊢
    by_cases he : e = 0
    · subst he
      simp only [ne_eq, not_true_eq_false, if_false] at h ⊢
      obtain ⟨hy, h2, h3⟩ := nodeZ h
      have herr : ∀ (w : Ty) e z z', (maxM w e z z').2 = 0 → e = 0 := by
        intro w e z z' h
        by_cases he : e = 0
        · exact he
        · exfalso
          cases w <;> (unfold maxM at h; rw [if_pos he] at h; exact he h)
      have z1 := herr _ _ _ _ hy
      obtain ⟨z2, q1, _⟩ := callZ _ z1
      obtain ⟨z3, q2, _⟩ := callZ _ z2
      have ea : (a.raw.lift 1 0) = (a.lift 1 0).raw := (Tm.raw_lift 1 a 0).symm
      have eb : (b.raw.lift 1 0) = (b.lift 1 0).raw := (Tm.raw_lift 1 b 0).symm
      have q1' : (callM (callM 0 (a.raw.lift 1 0) [varM 0]).2 (b.raw.lift 1 0) [varM 0]).1 = (Tm.app (b.lift 1 0) (.var 0)).raw := by rw [q1, eb]; rfl
      have q2' : (callM 0 (a.raw.lift 1 0) [varM 0]).1 = (Tm.app (a.lift 1 0) (.var 0)).raw := by rw [q2, ea]; rfl
      rw [q1', q2'] at hy
      have := (maxZ u hy).2.1
      refine ⟨trivial, ?_, by rw [h2]; exact h3⟩
      rw [h2, q1', q2', this]
      rfl
    · rw [if_pos he] at h; exact absurd h he
theorem stepZ {s : Ty} {e : Int} {x : Tm} (h : (stepM s e x.raw).2 = 0) : e = 0 ∧ (stepM s e x.raw).1 = (Tm.lam .nat (.lam s (T.mx s (.var 0) x))).raw := by
  unfold stepM at h ⊢
  simp only at h ⊢
  obtain ⟨h1, h2, _⟩ := nodeZ h
  obtain ⟨g1, g2, _⟩ := nodeZ h1
  have e0 : varM 0 = (Tm.var 0).raw := rfl
  rw [e0] at g1
  obtain ⟨k1, k2, _⟩ := maxZ s g1
  refine ⟨k1, ?_⟩
  rw [h2, g2, e0, k2]
  rfl
theorem allZ {t : Tm} {l : List (RM × Int)} (h : (allM t l).2 = 0) : (∀ p ∈ l, p.2 = 0) ∧ (combM t (l.map (·.1))).2 = 0 ∧ (allM t l).1 = (combM t (l.map (·.1))).1 := by
  unfold allM at h ⊢
  by_cases hl : l.all (fun p => p.2 == 0) = true
  · rw [if_pos hl] at h ⊢
    exact ⟨fun p hp => by simpa using List.all_eq_true.1 hl p hp, h, rfl⟩
  · rw [if_neg hl] at h
    simp at h
/-- Where there is no error, the majorant is made. -/
theorem ofM_zero (t : Tm) : (ofM t).2 = 0 → (ofM t).1 = t.star.raw ∧ t.star.size ≤ 4096 := by
  suffices h : (ofM t).2 = 0 → (ofM t).1 = t.star.raw ∧ (ofM t).1.count ≤ 4096 by
    intro h0
    have := h h0
    refine ⟨this.1, ?_⟩
    rw [← Tm.raw_count, ← this.1]
    exact this.2
  induction t with
  | var i => intro h; exact ⟨rfl, by simp [ofM, allM, combM, varM, RM.count_mk]⟩
  | zero => intro h; exact ⟨rfl, by decide⟩
  | nil => intro h; exact ⟨rfl, by decide⟩
  | unit => intro h; exact ⟨rfl, by decide⟩
  | lam s b ih =>
    intro h
    rw [show ofM (.lam s b) = allM (.lam s b) [ofM b] from rfl] at h ⊢
    obtain ⟨hp, hc, e⟩ := allZ h
    obtain ⟨r1, _⟩ := ih (hp _ (by simp))
    obtain ⟨_, q2, q3⟩ := nodeZ hc
    rw [e]
    simp only [List.map_cons, List.map_nil, r1] at q2 q3 ⊢
    exact ⟨q2, by rw [show (combM (.lam s b) [b.star.raw]).1 = _ from q2]; exact q3⟩
  | app f a ih1 ih2 =>
    intro h
    rw [show ofM (.app f a) = allM (.app f a) [ofM f, ofM a] from rfl] at h ⊢
    obtain ⟨hp, hc, e⟩ := allZ h
    obtain ⟨r1, _⟩ := ih1 (hp _ (by simp))
    obtain ⟨r2, _⟩ := ih2 (hp _ (by simp))
    obtain ⟨_, q2, q3⟩ := nodeZ hc
    rw [e]
    simp only [List.map_cons, List.map_nil, r1, r2] at q2 q3 ⊢
    exact ⟨q2, by rw [show (combM (.app f a) [f.star.raw, a.star.raw]).1 = _ from q2]; exact q3⟩
  | pair f a ih1 ih2 =>
    intro h
    rw [show ofM (.pair f a) = allM (.pair f a) [ofM f, ofM a] from rfl] at h ⊢
    obtain ⟨hp, hc, e⟩ := allZ h
    obtain ⟨r1, _⟩ := ih1 (hp _ (by simp))
    obtain ⟨r2, _⟩ := ih2 (hp _ (by simp))
    obtain ⟨_, q2, q3⟩ := nodeZ hc
    rw [e]
    simp only [List.map_cons, List.map_nil, r1, r2] at q2 q3 ⊢
    exact ⟨q2, by rw [show (combM (.pair f a) [f.star.raw, a.star.raw]).1 = _ from q2]; exact q3⟩
  | succ b ih =>
    intro h
    rw [show ofM (.succ b) = allM (.succ b) [ofM b] from rfl] at h ⊢
    obtain ⟨hp, hc, e⟩ := allZ h
    obtain ⟨r1, _⟩ := ih (hp _ (by simp))
    obtain ⟨_, q2, q3⟩ := nodeZ hc
    rw [e]
    simp only [List.map_cons, List.map_nil, r1] at q2 q3 ⊢
    exact ⟨q2, by rw [show (combM (.succ b) [b.star.raw]).1 = _ from q2]; exact q3⟩
  | fst b ih =>
    intro h
    rw [show ofM (.fst b) = allM (.fst b) [ofM b] from rfl] at h ⊢
    obtain ⟨hp, hc, e⟩ := allZ h
    obtain ⟨r1, _⟩ := ih (hp _ (by simp))
    obtain ⟨_, q2, q3⟩ := nodeZ hc
    rw [e]
    simp only [List.map_cons, List.map_nil, r1] at q2 q3 ⊢
    exact ⟨q2, by rw [show (combM (.fst b) [b.star.raw]).1 = _ from q2]; exact q3⟩
  | snd b ih =>
    intro h
    rw [show ofM (.snd b) = allM (.snd b) [ofM b] from rfl] at h ⊢
    obtain ⟨hp, hc, e⟩ := allZ h
    obtain ⟨r1, _⟩ := ih (hp _ (by simp))
    obtain ⟨_, q2, q3⟩ := nodeZ hc
    rw [e]
    simp only [List.map_cons, List.map_nil, r1] at q2 q3 ⊢
    exact ⟨q2, by rw [show (combM (.snd b) [b.star.raw]).1 = _ from q2]; exact q3⟩
  | cons f a ih1 ih2 =>
    intro h
    rw [show ofM (.cons f a) = allM (.cons f a) [ofM f, ofM a] from rfl] at h ⊢
    obtain ⟨hp, hc, e⟩ := allZ h
    obtain ⟨r1, _⟩ := ih1 (hp _ (by simp))
    obtain ⟨r2, _⟩ := ih2 (hp _ (by simp))
    rw [e]
    simp only [List.map_cons, List.map_nil, r1, r2, combM] at hc ⊢
    have herr : ∀ e z z', (maxM .nat e z z').2 = 0 → e = 0 := by
      intro e z z' h
      by_cases he : e = 0
      · exact he
      · exfalso
        unfold maxM at h; rw [if_pos he] at h; exact he h
    obtain ⟨_, q2, _⟩ := nodeZ (herr _ _ _ hc)
    have q2' : (nodeM 0 5 noTy [a.star.raw]).1 = (Tm.succ a.star).raw := q2
    rw [q2'] at hc ⊢
    obtain ⟨_, g2, g3⟩ := maxZ .nat hc
    exact ⟨g2, g3⟩
  | recn s b f n ih1 ih2 ih3 =>
    intro h
    rw [show ofM (.recn s b f n) = allM (.recn s b f n) [ofM b, ofM f, ofM n] from rfl] at h ⊢
    obtain ⟨hp, hc, e⟩ := allZ h
    obtain ⟨r1, _⟩ := ih1 (hp _ (by simp))
    obtain ⟨r2, _⟩ := ih2 (hp _ (by simp))
    obtain ⟨r3, _⟩ := ih3 (hp _ (by simp))
    rw [e]
    simp only [List.map_cons, List.map_nil, r1, r2, r3, combM] at hc ⊢
    obtain ⟨z1, q1, q2⟩ := nodeZ hc
    have herr : ∀ x : RM, (stepM s.star (callM 0 (f.star.raw.lift 2 0) [varM 1, varM 0]).2 x).2 = 0 → (callM 0 (f.star.raw.lift 2 0) [varM 1, varM 0]).2 = 0 := by
      intro x h
      rcases callM_err [varM 1, varM 0] (e := 0) (f := f.star.raw.lift 2 0) (.inl rfl) with h4 | h4
      · exact h4
      · rw [h4] at h
        unfold stepM nodeM at h
        have : (maxM s.star 4 (varM 0) x).2 = 4 := by cases s.star <;> simp [maxM]
        simp [this] at h
    obtain ⟨_, c1, _⟩ := callZ _ (herr _ z1)
    have c2 : (callM 0 (f.star.raw.lift 2 0) [varM 1, varM 0]).1 = (Tm.app (.app (f.star.lift 2 0) (.var 1)) (.var 0)).raw := by
      rw [c1, show f.star.raw.lift 2 0 = (f.star.lift 2 0).raw from (Tm.raw_lift 2 f.star 0).symm]
      rfl
    rw [c2] at z1
    obtain ⟨_, s2⟩ := stepZ z1
    refine ⟨?_, by rw [q1]; exact q2⟩
    rw [q1, c2, s2]
    rfl
  | fold s b f n ih1 ih2 ih3 =>
    intro h
    rw [show ofM (.fold s b f n) = allM (.fold s b f n) [ofM b, ofM f, ofM n] from rfl] at h ⊢
    obtain ⟨hp, hc, e⟩ := allZ h
    obtain ⟨r1, _⟩ := ih1 (hp _ (by simp))
    obtain ⟨r2, _⟩ := ih2 (hp _ (by simp))
    obtain ⟨r3, _⟩ := ih3 (hp _ (by simp))
    rw [e]
    simp only [List.map_cons, List.map_nil, r1, r2, r3, combM] at hc ⊢
    obtain ⟨z0, p1, p2⟩ := callZ _ hc
    obtain ⟨z0', p3, _⟩ := nodeZ z0
    obtain ⟨z1, q1, q2⟩ := nodeZ z0'
    have herr : ∀ x : RM, (stepM s.star (callM 0 (f.star.raw.lift 3 0) [varM 2, varM 2, varM 0]).2 x).2 = 0 → (callM 0 (f.star.raw.lift 3 0) [varM 2, varM 2, varM 0]).2 = 0 := by
      intro x h
      rcases callM_err [varM 2, varM 2, varM 0] (e := 0) (f := f.star.raw.lift 3 0) (.inl rfl) with h4 | h4
      · exact h4
      · rw [h4] at h
        unfold stepM nodeM at h
        have : (maxM s.star 4 (varM 0) x).2 = 4 := by cases s.star <;> simp [maxM]
        simp [this] at h
    obtain ⟨_, c1, _⟩ := callZ _ (herr _ z1)
    have c2 : (callM 0 (f.star.raw.lift 3 0) [varM 2, varM 2, varM 0]).1 = (Tm.app (.app (.app (f.star.lift 3 0) (.var 2)) (.var 2)) (.var 0)).raw := by
      rw [c1, show f.star.raw.lift 3 0 = (f.star.lift 3 0).raw from (Tm.raw_lift 3 f.star 0).symm]
      rfl
    rw [c2] at z1
    obtain ⟨_, s2⟩ := stepZ z1
    refine ⟨?_, p2 (by simp)⟩
    rw [p1, p3, q1, c2, s2, show b.star.raw.lift 1 0 = (b.star.lift 1 0).raw from (Tm.raw_lift 1 b.star 0).symm]
    rfl
end M
namespace T
open M
theorem mx_small : ∀ (s : Ty) (a b : Tm), s.size ≤ 64 → a.small = true → b.small = true → (mx s a b).small = true
  | .nat, a, b, hs, ha, hb => by simp [mx, Tm.small, ha, hb]; decide
  | .list, a, b, _, _, _ => rfl
  | .unit, a, b, _, _, _ => rfl
  | .pair s u, a, b, hs, ha, hb => by
    simp only [Ty.size] at hs
    simp only [mx, Tm.small, Bool.and_eq_true]
    exact ⟨mx_small s _ _ (by omega) ha hb, mx_small u _ _ (by omega) ha hb⟩
  | .fn s u, a, b, hs, ha, hb => by
    simp only [Ty.size] at hs
    simp only [mx, Tm.small, Bool.and_eq_true, decide_eq_true_eq]
    exact ⟨by omega, mx_small u _ _ (by omega) (by simp [Tm.small, Tm.small_lift, ha]) (by simp [Tm.small, Tm.small_lift, hb])⟩
theorem Tm.star_small (t : Tm) : t.small = true → t.star.small = true := by
  induction t with
  | lam s b ih => intro h; simp only [Tm.small, Bool.and_eq_true, decide_eq_true_eq] at h; simp [Tm.star, Tm.small, Ty.star_size, h.1, ih h.2]
  | recn s b f n ih1 ih2 ih3 =>
    intro h
    simp only [Tm.small, Bool.and_eq_true, decide_eq_true_eq] at h
    have hm := mx_small s.star (.var 0) (.app (.app (f.star.lift 2 0) (.var 1)) (.var 0)) (by rw [Ty.star_size]; exact h.1.1.1) rfl (by simp [Tm.small, Tm.small_lift, ih2 h.1.2])
    simp [Tm.star, Tm.small, Ty.star_size, Ty.size, h.1.1.1, ih1 h.1.1.2, ih3 h.2, hm]
  | fold s b f n ih1 ih2 ih3 =>
    intro h
    simp only [Tm.small, Bool.and_eq_true, decide_eq_true_eq] at h
    have hm := mx_small s.star (.var 0) (.app (.app (.app (f.star.lift 3 0) (.var 2)) (.var 2)) (.var 0)) (by rw [Ty.star_size]; exact h.1.1.1) rfl (by simp [Tm.small, Tm.small_lift, ih2 h.1.2])
    simp [Tm.star, Tm.small, Tm.small_lift, Ty.star_size, Ty.size, h.1.1.1, ih1 h.1.1.2, ih3 h.2, hm]
  | cons a b ih1 ih2 => intro h; simp only [Tm.small, Bool.and_eq_true] at h; exact mx_small .nat _ _ (by decide) (ih1 h.1) (by simpa [Tm.small] using ih2 h.2)
  | app a b ih1 ih2 => intro h; simp only [Tm.small, Bool.and_eq_true] at h; simp [Tm.star, Tm.small, ih1 h.1, ih2 h.2]
  | pair a b ih1 ih2 => intro h; simp only [Tm.small, Bool.and_eq_true] at h; simp [Tm.star, Tm.small, ih1 h.1, ih2 h.2]
  | succ a ih => exact ih
  | fst a ih => exact ih
  | snd a ih => exact ih
  | _ => intro _; rfl
theorem Look.lt {g : List Ty} {i : Nat} {s : Ty} {p : Env g → s.den} (h : Look g i s p) : i < g.length := by
  induction h with
  | here => simp
  | there _ ih => simp only [List.length_cons]; omega
/-- No variable of a typed term is great. -/
theorem Sem.idx {g : List Ty} {t : Tm} {s : Ty} {d : Env g → s.den} (h : Sem g t s d) : t.idx (g.length + t.size) = true := by
  have up : ∀ {t : Tm} {b c : Nat}, b ≤ c → t.idx b = true → t.idx c = true := fun h => Tm.idx_mono h _
  induction h with
  | var hl => have := hl.lt; simp only [Tm.idx, decide_eq_true_eq]; omega
  | lam _ ih => simp only [Tm.idx, Tm.size]; simp only [List.length_cons] at ih; exact up (by omega) ih
  | app _ _ ih1 ih2 => simp only [Tm.idx, Tm.size, Bool.and_eq_true]; exact ⟨up (by omega) ih1, up (by omega) ih2⟩
  | zero => rfl
  | succ _ ih => simp only [Tm.idx, Tm.size]; exact up (by omega) ih
  | recn _ _ _ ih1 ih2 ih3 => simp only [Tm.idx, Tm.size, Bool.and_eq_true]; exact ⟨⟨up (by omega) ih1, up (by omega) ih2⟩, up (by omega) ih3⟩
  | nil => rfl
  | cons _ _ ih1 ih2 => simp only [Tm.idx, Tm.size, Bool.and_eq_true]; exact ⟨up (by omega) ih1, up (by omega) ih2⟩
  | fold _ _ _ ih1 ih2 ih3 => simp only [Tm.idx, Tm.size, Bool.and_eq_true]; exact ⟨⟨up (by omega) ih1, up (by omega) ih2⟩, up (by omega) ih3⟩
  | pair _ _ ih1 ih2 => simp only [Tm.idx, Tm.size, Bool.and_eq_true]; exact ⟨up (by omega) ih1, up (by omega) ih2⟩
  | fst _ ih => simp only [Tm.idx, Tm.size]; exact up (by omega) ih
  | snd _ ih => simp only [Tm.idx, Tm.size]; exact up (by omega) ih
  | unit => rfl
end T
end Go.Proofs.YthclcchnodjjpaaGreatDoor
