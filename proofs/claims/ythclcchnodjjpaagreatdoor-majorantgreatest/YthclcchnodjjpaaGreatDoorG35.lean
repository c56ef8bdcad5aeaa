/- A part of the proof: MgA, LwE. -/
import Derived.Test.YthclcchnodjjpaaGreatDoorG19
import Derived.Test.YthclcchnodjjpaaGreatDoorG20
import Derived.Test.YthclcchnodjjpaaGreatDoorG31
/- majorant.listed, Max. -/
set_option linter.unusedVariables false
set_option linter.unusedSimpArgs false
set_option maxRecDepth 10000
set_option maxHeartbeats 4000000
namespace Go.Proofs.YthclcchnodjjpaaGreatDoor
namespace M
attribute [local irreducible] Wp thenK blockK endK
variable {E : Oracle}
open T (Ty Tm noTy)
attribute [local simp] noTy
theorem listed1 (s : Ty) (hs : s.bare = true) : den X E 82 [s.raw.enc] [] = some (.bool false, []) := by
  have hw1 : IntKind.i64.wrap 1 = 1 := by decide
  have hw2 : IntKind.i64.wrap 2 = 2 := by decide
  induction s with
  | list => simp [Ty.bare] at hs
  | nat =>
    simp only [Ty.raw]
    refine den_w0 (fn := Tryz.f82) (by rfl) (by rfl) (by kernel_rfl) rfl (by rfl) ?_
    simp -implicitDefEqProofs
    (repeat (first | refine Wp.seq ?_ | refine Wp.block ?_ | refine Wp.skip ?_ | refine Wp.exit ?_ | refine Wp.ret ?_ | refine thenK_n ?_ | refine thenK_r ?_ | refine thenK_e ?_ | refine blockK_n ?_ | refine blockK_r ?_ | refine blockK_e ?_ | refine blockK_o (by decide) ?_ | (refine Wp.condT ?_ ?_; focus (simp -implicitDefEqProofs <;> fail)) | (refine Wp.condF ?_ ?_; focus (simp -implicitDefEqProofs <;> fail)) | refine Wp.reg (by simp -implicitDefEqProofs; exact ⟨rfl, rfl⟩) ?_ | refine Wp.regA (by simp -implicitDefEqProofs; exact ⟨rfl, rfl⟩) (by rfl) ?_ | refine Wp.unroll ?_))
    (apply endK_r; (focus (simp -implicitDefEqProofs [Tryz.f82]; try rfl)); (focus (intro g; simp -implicitDefEqProofs [Tryz.f82])); exact ⟨_, rfl⟩)
  | unit =>
    simp only [Ty.raw]
    refine den_w0 (fn := Tryz.f82) (by rfl) (by rfl) (by kernel_rfl) rfl (by rfl) ?_
    simp -implicitDefEqProofs
    (repeat (first | refine Wp.seq ?_ | refine Wp.block ?_ | refine Wp.skip ?_ | refine Wp.exit ?_ | refine Wp.ret ?_ | refine thenK_n ?_ | refine thenK_r ?_ | refine thenK_e ?_ | refine blockK_n ?_ | refine blockK_r ?_ | refine blockK_e ?_ | refine blockK_o (by decide) ?_ | (refine Wp.condT ?_ ?_; focus (simp -implicitDefEqProofs <;> fail)) | (refine Wp.condF ?_ ?_; focus (simp -implicitDefEqProofs <;> fail)) | refine Wp.reg (by simp -implicitDefEqProofs; exact ⟨rfl, rfl⟩) ?_ | refine Wp.regA (by simp -implicitDefEqProofs; exact ⟨rfl, rfl⟩) (by rfl) ?_ | refine Wp.unroll ?_))
    (apply endK_r; (focus (simp -implicitDefEqProofs [Tryz.f82]; try rfl)); (focus (intro g; simp -implicitDefEqProofs [Tryz.f82])); exact ⟨_, rfl⟩)
  | pair a b ih1 ih2 =>
    simp only [Ty.bare, Bool.and_eq_true] at hs
    have c1 : ∀ (g : Nat) (S : St) (o1 : Own), callT (X.at g) (den X E) S 82 [.agg [.int .i64 a.raw.k, .sl (List.map RT.cells a.raw.as) o1]] = some (.bool false, S) := by
      intros
      simpa using call_up (cf := X.at _) (fn := Tryz.f82) (args' := [_]) (by kernel_rfl) (by simp) (by simp; try rfl) (by simpa using ih1 hs.1) _
    have c2 : ∀ (g : Nat) (S : St) (o1 : Own), callT (X.at g) (den X E) S 82 [.agg [.int .i64 b.raw.k, .sl (List.map RT.cells b.raw.as) o1]] = some (.bool false, S) := by
      intros
      simpa using call_up (cf := X.at _) (fn := Tryz.f82) (args' := [_]) (by kernel_rfl) (by simp) (by simp; try rfl) (by simpa using ih2 hs.2) _
    simp only [Ty.raw]
    refine den_w0 (fn := Tryz.f82) (by rfl) (by rfl) (by kernel_rfl) rfl (by rfl) ?_
    simp -implicitDefEqProofs
    (repeat (first | refine Wp.seq ?_ | refine Wp.block ?_ | refine Wp.skip ?_ | refine Wp.exit ?_ | refine Wp.ret ?_ | refine thenK_n ?_ | refine thenK_r ?_ | refine thenK_e ?_ | refine blockK_n ?_ | refine blockK_r ?_ | refine blockK_e ?_ | refine blockK_o (by decide) ?_ | (refine Wp.condT ?_ ?_; focus (simp -implicitDefEqProofs [c1, c2, hw1, hw2] <;> fail)) | (refine Wp.condF ?_ ?_; focus (simp -implicitDefEqProofs [c1, c2, hw1, hw2] <;> fail)) | refine Wp.reg (by simp -implicitDefEqProofs [c1, c2, hw1, hw2]; exact ⟨rfl, rfl⟩) ?_ | refine Wp.regA (by simp -implicitDefEqProofs [c1, c2, hw1, hw2]; exact ⟨rfl, rfl⟩) (by rfl) ?_ | refine Wp.unroll ?_))
    (apply endK_r; (focus (simp -implicitDefEqProofs [Tryz.f82]; try rfl)); (focus (intro g; simp -implicitDefEqProofs [Tryz.f82])); exact ⟨_, rfl⟩)
  | fn a b ih1 ih2 =>
    simp only [Ty.bare, Bool.and_eq_true] at hs
    have c1 : ∀ (g : Nat) (S : St) (o1 : Own), callT (X.at g) (den X E) S 82 [.agg [.int .i64 a.raw.k, .sl (List.map RT.cells a.raw.as) o1]] = some (.bool false, S) := by
      intros
      simpa using call_up (cf := X.at _) (fn := Tryz.f82) (args' := [_]) (by kernel_rfl) (by simp) (by simp; try rfl) (by simpa using ih1 hs.1) _
    have c2 : ∀ (g : Nat) (S : St) (o1 : Own), callT (X.at g) (den X E) S 82 [.agg [.int .i64 b.raw.k, .sl (List.map RT.cells b.raw.as) o1]] = some (.bool false, S) := by
      intros
      simpa using call_up (cf := X.at _) (fn := Tryz.f82) (args' := [_]) (by kernel_rfl) (by simp) (by simp; try rfl) (by simpa using ih2 hs.2) _
    simp only [Ty.raw]
    refine den_w0 (fn := Tryz.f82) (by rfl) (by rfl) (by kernel_rfl) rfl (by rfl) ?_
    simp -implicitDefEqProofs
    (repeat (first | refine Wp.seq ?_ | refine Wp.block ?_ | refine Wp.skip ?_ | refine Wp.exit ?_ | refine Wp.ret ?_ | refine thenK_n ?_ | refine thenK_r ?_ | refine thenK_e ?_ | refine blockK_n ?_ | refine blockK_r ?_ | refine blockK_e ?_ | refine blockK_o (by decide) ?_ | (refine Wp.condT ?_ ?_; focus (simp -implicitDefEqProofs [c1, c2, hw1, hw2] <;> fail)) | (refine Wp.condF ?_ ?_; focus (simp -implicitDefEqProofs [c1, c2, hw1, hw2] <;> fail)) | refine Wp.reg (by simp -implicitDefEqProofs [c1, c2, hw1, hw2]; exact ⟨rfl, rfl⟩) ?_ | refine Wp.regA (by simp -implicitDefEqProofs [c1, c2, hw1, hw2]; exact ⟨rfl, rfl⟩) (by rfl) ?_ | refine Wp.unroll ?_))
    (apply endK_r; (focus (simp -implicitDefEqProofs [Tryz.f82]; try rfl)); (focus (intro g; simp -implicitDefEqProofs [Tryz.f82])); exact ⟨_, rfl⟩)
theorem listed1_c {s : Ty} (hs : s.bare = true) (g : Nat) (S : St) (o1 : Own) : callT (X.at g) (den X E) S 82 [.agg [.int .i64 s.raw.k, .sl (List.map RT.cells s.raw.as) o1]] = some (.bool false, S) := by
  simpa using call_up (cf := X.at g) (fn := Tryz.f82) (args' := [.agg [.int .i64 s.raw.k, .sl (List.map RT.cells s.raw.as) o1]]) (by kernel_rfl) (by simp) (by simp; try rfl) (listed1 s hs) S
theorem good_raw {t : Tm} {b : Nat} (hs : t.small = true) (hi : t.idx b = true) (hn : t.size ≤ 4096) : t.raw.good b := by
  have hts : ∀ t : Tm, t.small = true → t.raw.tsm = true := by
    intro t
    have h0 : noTy.nodes ≤ 64 := by rw [noTy_nodes]; omega
    induction t with
    | lam s b ih => intro h; simp only [Tm.small, Bool.and_eq_true, decide_eq_true_eq] at h; simp [Tm.raw, RM.tsm_mk, Ty.raw_nodes, h.1, ih h.2]
    | recn s b f n ih1 ih2 ih3 => intro h; simp only [Tm.small, Bool.and_eq_true, decide_eq_true_eq] at h; simp [Tm.raw, RM.tsm_mk, Ty.raw_nodes, h.1.1.1, ih1 h.1.1.2, ih2 h.1.2, ih3 h.2]
    | fold s b f n ih1 ih2 ih3 => intro h; simp only [Tm.small, Bool.and_eq_true, decide_eq_true_eq] at h; simp [Tm.raw, RM.tsm_mk, Ty.raw_nodes, h.1.1.1, ih1 h.1.1.2, ih2 h.1.2, ih3 h.2]
    | app a b ih1 ih2 => intro h; simp only [Tm.small, Bool.and_eq_true] at h; simp [Tm.raw, RM.tsm_mk, RT.nodes_mk, ih1 h.1, ih2 h.2]
    | cons a b ih1 ih2 => intro h; simp only [Tm.small, Bool.and_eq_true] at h; simp [Tm.raw, RM.tsm_mk, RT.nodes_mk, ih1 h.1, ih2 h.2]
    | pair a b ih1 ih2 => intro h; simp only [Tm.small, Bool.and_eq_true] at h; simp [Tm.raw, RM.tsm_mk, RT.nodes_mk, ih1 h.1, ih2 h.2]
    | succ a ih => intro h; simp [Tm.raw, RM.tsm_mk, RT.nodes_mk, ih h]
    | fst a ih => intro h; simp [Tm.raw, RM.tsm_mk, RT.nodes_mk, ih h]
    | snd a ih => intro h; simp [Tm.raw, RM.tsm_mk, RT.nodes_mk, ih h]
    | _ => intro h; simp [Tm.raw, RM.tsm_mk, RT.nodes_mk]
  exact ⟨hts t hs, by rw [Tm.raw_idx]; exact hi, by rw [Tm.raw_count]; exact hn⟩
theorem mjMax1 (s : Ty) (x y : Tm) {b : Nat} (hb : 1 ≤ b) (hbs : b ≤ 400000000) (hs : s.size ≤ 64) (hx : x.raw.good b) (hy : y.raw.good b) :
    den X E 83 [.loc 0 0, .rp s.raw.cells, .rp x.raw.cells, .rp y.raw.cells] [[.int .i64 0]] = some ((maxM s 0 x.raw y.raw).1.enc, [[.int .i64 (maxM s 0 x.raw y.raw).2]]) := by
  have k := mjMax (E := E) s 0 x.raw y.raw (b := b) (by omega) (by omega) hs hx hy
  have c1 : ∀ (g b : Nat) (S : St) (o1 o2 o3 o4 o5 : Own), sd S.σ b = some [.int .i64 0] → callT (X.at g) (den X E) S 84 [.loc b 0, .agg [.int .i64 s.raw.k, .sl (List.map RT.cells s.raw.as) o1], .agg [.int .i64 x.raw.k, .int .i64 x.raw.i, .int .i64 x.raw.ty.k, .sl (List.map RT.cells x.raw.ty.as) o2, .sl (List.map RM.cells x.raw.as) o3], .agg [.int .i64 y.raw.k, .int .i64 y.raw.i, .int .i64 y.raw.ty.k, .sl (List.map RT.cells y.raw.ty.as) o4, .sl (List.map RM.cells y.raw.as) o5]] = some (.agg [.int .i64 (maxM s 0 x.raw y.raw).1.k, .int .i64 (maxM s 0 x.raw y.raw).1.i, .int .i64 (maxM s 0 x.raw y.raw).1.ty.k, .sl (List.map RT.cells (maxM s 0 x.raw y.raw).1.ty.as) .dead, .sl (List.map RM.cells (maxM s 0 x.raw y.raw).1.as) .dead], { S with σ := S.σ.set b [.int .i64 (maxM s 0 x.raw y.raw).2] }) := by
    intros
    rename_i hS
    simpa using call_upD (cf := X.at _) (fn := Tryz.f84) (args' := [_, _, _]) (by kernel_rfl) rfl (by rfl) (by rfl) (by simp) (by simp; try rfl) (by simp) (by simp) (by simpa using k) _ hS
  refine den_w (fn := Tryz.f83) (σ1 := [[.int .i64 (maxM s 0 x.raw y.raw).2]]) (by rfl) (by rfl) (by kernel_rfl) rfl (by rfl) (by rfl) (by simp -implicitDefEqProofs) ?_
  simp -implicitDefEqProofs
  (repeat (first | refine Wp.seq ?_ | refine Wp.block ?_ | refine Wp.skip ?_ | refine Wp.exit ?_ | refine Wp.ret ?_ | refine thenK_n ?_ | refine thenK_r ?_ | refine thenK_e ?_ | refine blockK_n ?_ | refine blockK_r ?_ | refine blockK_e ?_ | refine blockK_o (by decide) ?_ | (refine Wp.condT ?_ ?_; focus (simp -implicitDefEqProofs [c1] <;> fail)) | (refine Wp.condF ?_ ?_; focus (simp -implicitDefEqProofs [c1] <;> fail)) | refine Wp.reg (by simp -implicitDefEqProofs [c1]; exact ⟨rfl, rfl⟩) ?_ | refine Wp.regA (by simp -implicitDefEqProofs [c1]; exact ⟨rfl, rfl⟩) (by rfl) ?_))
  (apply endK_r; (focus (simp -implicitDefEqProofs [Tryz.f83]; try rfl)); (focus (intro g; simp -implicitDefEqProofs [Tryz.f83])); exact ⟨_, rfl⟩)
/-- Where there is no error. -/
theorem mjMaxRun (s : Ty) (x y : Tm) {b : Nat} (hb : 1 ≤ b) (hbs : b ≤ 400000000) (hs : s.size ≤ 64) (hx : x.raw.good b) (hy : y.raw.good b) (h0 : (maxM s 0 x.raw y.raw).2 = 0) :
    den X E 46 [.fn 83 [.rp s.raw.cells, .rp x.raw.cells, .rp y.raw.cells]] [] = some (.tup [(maxM s 0 x.raw y.raw).1.enc, .int .i64 0], []) := by
  have c1 : ∀ (g b : Nat) (S : St), sd S.σ b = some [.int .i64 0] → callT (X.at g) (den X E) S 83 [.loc b 0, .rp [.int .i64 s.raw.k, .sl (List.map RT.cells s.raw.as) .dead], .rp [.int .i64 x.raw.k, .int .i64 x.raw.i, .int .i64 x.raw.ty.k, .sl (List.map RT.cells x.raw.ty.as) .dead, .sl (List.map RM.cells x.raw.as) .dead], .rp [.int .i64 y.raw.k, .int .i64 y.raw.i, .int .i64 y.raw.ty.k, .sl (List.map RT.cells y.raw.ty.as) .dead, .sl (List.map RM.cells y.raw.as) .dead]] =
      some (.agg [.int .i64 (maxM s 0 x.raw y.raw).1.k, .int .i64 (maxM s 0 x.raw y.raw).1.i, .int .i64 (maxM s 0 x.raw y.raw).1.ty.k, .sl (List.map RT.cells (maxM s 0 x.raw y.raw).1.ty.as) .dead, .sl (List.map RM.cells (maxM s 0 x.raw y.raw).1.as) .dead], { S with σ := S.σ.set b [.int .i64 0] }) := by
    intros
    rename_i hS
    have k := mjMax1 (E := E) s x y hb hbs hs hx hy
    rw [h0] at k
    simpa using call_upD (cf := X.at _) (fn := Tryz.f83) (args' := [_, _, _]) (by kernel_rfl) rfl (by rfl) (by rfl) (by simp) (by simp; try rfl) (by simp) (by simp) k _ hS
  refine den_w0 (fn := Tryz.f46) (by rfl) (by rfl) (by kernel_rfl) rfl (by rfl) ?_
  simp -implicitDefEqProofs
  (repeat (first | refine Wp.seq ?_ | refine Wp.block ?_ | refine Wp.skip ?_ | refine Wp.exit ?_ | refine Wp.ret ?_ | refine thenK_n ?_ | refine thenK_r ?_ | refine thenK_e ?_ | refine blockK_n ?_ | refine blockK_r ?_ | refine blockK_e ?_ | refine blockK_o (by decide) ?_ | (refine Wp.condT ?_ ?_; focus (simp -implicitDefEqProofs [c1] <;> fail)) | (refine Wp.condF ?_ ?_; focus (simp -implicitDefEqProofs [c1] <;> fail)) | refine Wp.reg (by simp -implicitDefEqProofs [c1]; exact ⟨rfl, rfl⟩) ?_ | refine Wp.regA (by simp -implicitDefEqProofs [c1]; exact ⟨rfl, rfl⟩) (by rfl) ?_))
  (apply endK_r; (focus (simp -implicitDefEqProofs [Tryz.f46]; try rfl)); (focus (intro g; simp -implicitDefEqProofs [Tryz.f46])); exact ⟨_, rfl⟩)
theorem call_runMax (s : Ty) (x y : Tm) {b : Nat} (hb : 1 ≤ b) (hbs : b ≤ 400000000) (hs : s.size ≤ 64) (hx : x.raw.good b) (hy : y.raw.good b) (h0 : (maxM s 0 x.raw y.raw).2 = 0) (g : Nat) (rest : List (List AV)) (tk : List Nat) :
    callT (X.at g) (den X E) ⟨[.int .i64 s.raw.k, .sl (List.map RT.cells s.raw.as) .dead] :: [.int .i64 x.raw.k, .int .i64 x.raw.i, .int .i64 x.raw.ty.k, .sl (List.map RT.cells x.raw.ty.as) .dead, .sl (List.map RM.cells x.raw.as) .dead] :: [.int .i64 y.raw.k, .int .i64 y.raw.i, .int .i64 y.raw.ty.k, .sl (List.map RT.cells y.raw.ty.as) .dead, .sl (List.map RM.cells y.raw.as) .dead] :: rest, tk⟩ 46 [.fn 83 [.loc 0 0, .loc 1 0, .loc 2 0]] =
      some (.tup [.agg [.int .i64 (maxM s 0 x.raw y.raw).1.k, .int .i64 (maxM s 0 x.raw y.raw).1.i, .int .i64 (maxM s 0 x.raw y.raw).1.ty.k, .sl (List.map RT.cells (maxM s 0 x.raw y.raw).1.ty.as) .dead, .sl (List.map RM.cells (maxM s 0 x.raw y.raw).1.as) .dead], .int .i64 0], ⟨[] :: [] :: [] :: rest, tk⟩) := by
  have hP : (X.at g).P.funcs[46]? = some Tryz.f46 := by kernel_rfl
  have ho : hand (X.at g) (Tryz.f46).params.toList [] ([.int .i64 s.raw.k, .sl (List.map RT.cells s.raw.as) .dead] :: [.int .i64 x.raw.k, .int .i64 x.raw.i, .int .i64 x.raw.ty.k, .sl (List.map RT.cells x.raw.ty.as) .dead, .sl (List.map RM.cells x.raw.as) .dead] :: [.int .i64 y.raw.k, .int .i64 y.raw.i, .int .i64 y.raw.ty.k, .sl (List.map RT.cells y.raw.ty.as) .dead, .sl (List.map RM.cells y.raw.as) .dead] :: rest) [.fn 83 [.loc 0 0, .loc 1 0, .loc 2 0]] =
      some ⟨[.fn 83 [.rp s.raw.cells, .rp x.raw.cells, .rp y.raw.cells]], [], [] :: [] :: [] :: rest⟩ := by
    simp [hand, handOne, gives, give, Tryz.f46]
  simp only [callT, hP, Option.bind_some, ho, List.any_nil, Bool.false_eq_true, if_false, List.map_nil, mjMaxRun s x y hb hbs hs hx hy h0, Option.map_some, putBack, RM.enc_eq]
theorem mjMaxF (s : Ty) (x y : Tm) {b : Nat} (hb : 1 ≤ b) (hbs : b ≤ 268435456) (hs : s.size ≤ 64) (hbare : s.bare = true) (hxs : x.small = true) (hxi : x.idx b = true) (hxn : x.size ≤ 4096) (hys : y.small = true) (hyi : y.idx b = true) (hyn : y.size ≤ 4096) (h0 : (maxM s 0 x.raw y.raw).2 = 0) :
    den X E 29 [s.raw.enc, x.raw.enc, y.raw.enc] [] = some (.tup [(T.mx s x y).raw.enc, .int .i64 0], []) := by
  have hmx := (maxZ s h0).2.1
  have hw1 : IntKind.i64.wrap 1 = 1 := by decide
  have hw2 : IntKind.i64.wrap 2 = 2 := by decide
  have c0 := typesCheck_c (E := E) (k := s.raw.k) (ts := s.raw.as) (by simp [Ty.raw_nodes]; omega)
  simp [s.raw_err hs] at c0
  have cl := listed1_c (E := E) hbare
  have f : ∀ t : Tm, t.small = true → t.idx b = true → t.size ≤ 4096 → t.raw.nodes ≤ 1000000000 ∧ t.raw.err = 0 ∧ t.raw.near 268435456 = true := fun t h1 h2 h3 =>
    ⟨by have := t.raw_nodes h1; omega, by rw [t.raw_err h1, if_pos h3], RM.near_of_idx _ (RM.idx_mono (b := b) (by omega) _ (by rw [t.raw_idx]; exact h2))⟩
  obtain ⟨x1, x2, x3⟩ := f x hxs hxi hxn
  obtain ⟨y1, y2, y3⟩ := f y hys hyi hyn
  have c1 := termsCheck_c (E := E) (k := x.raw.k) (i := x.raw.i) (m := x.raw.ty.k) (us := x.raw.ty.as) (ts := x.raw.as) (by simpa using x1)
  have c2 := far_c (E := E) (k := x.raw.k) (i := x.raw.i) (m := x.raw.ty.k) (us := x.raw.ty.as) (ts := x.raw.as) (by simpa using x1)
  have c3 := termsCheck_c (E := E) (k := y.raw.k) (i := y.raw.i) (m := y.raw.ty.k) (us := y.raw.ty.as) (ts := y.raw.as) (by simpa using y1)
  have c4 := far_c (E := E) (k := y.raw.k) (i := y.raw.i) (m := y.raw.ty.k) (us := y.raw.ty.as) (ts := y.raw.as) (by simpa using y1)
  simp [x2] at c1
  simp [x3] at c2
  simp [y2] at c3
  simp [y3] at c4
  have c5 := call_runMax (E := E) s x y hb (by omega) hs (good_raw hxs hxi hxn) (good_raw hys hyi hyn) h0
  rw [hmx] at c5
  generalize T.mx s x y = m at c5
  refine den_w0 (fn := Tryz.f29) (by rfl) (by rfl) (by kernel_rfl) rfl (by rfl) ?_
  simp -implicitDefEqProofs
  (repeat (first | refine Wp.seq ?_ | refine Wp.block ?_ | refine Wp.skip ?_ | refine Wp.exit ?_ | refine Wp.ret ?_ | refine thenK_n ?_ | refine thenK_r ?_ | refine thenK_e ?_ | refine blockK_n ?_ | refine blockK_r ?_ | refine blockK_e ?_ | refine blockK_o (by decide) ?_ | (refine Wp.condT ?_ ?_; focus (simp -implicitDefEqProofs [c0, cl, c1, c2, c3, c4, c5, hw1, hw2] <;> fail)) | (refine Wp.condF ?_ ?_; focus (simp -implicitDefEqProofs [c0, cl, c1, c2, c3, c4, c5, hw1, hw2] <;> fail)) | refine Wp.reg (by simp -implicitDefEqProofs [c0, cl, c1, c2, c3, c4, c5, hw1, hw2]; exact ⟨rfl, rfl⟩) ?_ | refine Wp.regA (by simp -implicitDefEqProofs [c0, cl, c1, c2, c3, c4, c5, hw1, hw2]; exact ⟨rfl, rfl⟩) (by rfl) ?_ | refine Wp.unroll ?_))
  (apply endK_r; (focus (simp -implicitDefEqProofs [Tryz.f29]; try rfl)); (focus (intro g; simp -implicitDefEqProofs [Tryz.f29])); exact ⟨_, rfl⟩)
theorem mjMaxF_c {s : Ty} {x y : Tm} {b : Nat} (hb : 1 ≤ b) (hbs : b ≤ 268435456) (hs : s.size ≤ 64) (hbare : s.bare = true) (hxs : x.small = true) (hxi : x.idx b = true) (hxn : x.size ≤ 4096) (hys : y.small = true) (hyi : y.idx b = true) (hyn : y.size ≤ 4096) (h0 : (maxM s 0 x.raw y.raw).2 = 0) (g : Nat) (S : St) (o1 o2 o3 o4 o5 : Own) : callT (X.at g) (den X E) S 29 [.agg [.int .i64 s.raw.k, .sl (List.map RT.cells s.raw.as) o1], .agg [.int .i64 x.raw.k, .int .i64 x.raw.i, .int .i64 x.raw.ty.k, .sl (List.map RT.cells x.raw.ty.as) o2, .sl (List.map RM.cells x.raw.as) o3], .agg [.int .i64 y.raw.k, .int .i64 y.raw.i, .int .i64 y.raw.ty.k, .sl (List.map RT.cells y.raw.ty.as) o4, .sl (List.map RM.cells y.raw.as) o5]] = some (.tup [.agg [.int .i64 (T.mx s x y).raw.k, .int .i64 (T.mx s x y).raw.i, .int .i64 (T.mx s x y).raw.ty.k, .sl (List.map RT.cells (T.mx s x y).raw.ty.as) .dead, .sl (List.map RM.cells (T.mx s x y).raw.as) .dead], .int .i64 0], S) := by
  simpa using call_up (cf := X.at g) (fn := Tryz.f29) (args' := [.agg [.int .i64 s.raw.k, .sl (List.map RT.cells s.raw.as) o1], .agg [.int .i64 x.raw.k, .int .i64 x.raw.i, .int .i64 x.raw.ty.k, .sl (List.map RT.cells x.raw.ty.as) o2, .sl (List.map RM.cells x.raw.as) o3], .agg [.int .i64 y.raw.k, .int .i64 y.raw.i, .int .i64 y.raw.ty.k, .sl (List.map RT.cells y.raw.ty.as) o4, .sl (List.map RM.cells y.raw.as) o5]]) (by kernel_rfl) (by simp) (by simp; try rfl) (mjMaxF s x y hb hbs hs hbare hxs hxi hxn hys hyi hyn h0) S
end M
end Go.Proofs.YthclcchnodjjpaaGreatDoor
/- law33.MajorantGreatest. -/
set_option linter.unusedVariables false
set_option linter.unusedSimpArgs false
set_option maxRecDepth 10000
set_option maxHeartbeats 4000000
namespace Go.Proofs.YthclcchnodjjpaaGreatDoor
namespace M
attribute [local irreducible] Wp thenK blockK endK
variable {E : Oracle}
open T (V Ty Tm noTy Ans Res Env tyR resT resE VT VB)
attribute [local simp] noTy
def gA (a b : Nat) : Tm := T.mx .nat (T.num a) (T.num b)
def gB (a b : Nat) : Tm := T.mx (.pair .nat .unit) (.pair (T.num a) .unit) (.pair (T.num b) .unit)
def gC (a : Nat) : Tm := T.mx (.fn .nat .nat) (.lam .nat (T.num a)) (.lam .nat (.var 0))
def isNum (k : Nat) (p : Ans) : Bool := match p with
  | (.num m, _, false) => m == k
  | _ => false
def isPair (k : Nat) (p : Ans) : Bool := match p with
  | (.pair (.num m) .unit, _, false) => m == k
  | _ => false
theorem isNum_eq {k : Nat} {p : Ans} (h : isNum k p = true) : ∃ u, p = (.num k, u, false) := by
  unfold isNum at h
  split at h
  · simp at h; subst h; exact ⟨_, rfl⟩
  · cases h
theorem isPair_eq {k : Nat} {p : Ans} (h : isPair k p = true) : ∃ u, p = (.pair (.num k) .unit, u, false) := by
  unfold isPair at h
  split at h
  · simp at h; subst h; exact ⟨_, rfl⟩
  · cases h
def small3 (t : Tm) : Bool := t.small && decide (t.size ≤ 4096)
theorem factsA : ∀ a < 9, ∀ b < 9, (maxM .nat 0 (T.num a).raw (T.num b).raw).2 = 0 ∧ small3 (gA a b) = true ∧ isNum (max a b) (run0 5000 (gA a b)) = true ∧ tyR [] (gA a b) = .inl .nat := by decide +kernel
theorem factsB : ∀ a < 9, ∀ b < 9, (maxM (.pair .nat .unit) 0 (Tm.pair (T.num a) .unit).raw (Tm.pair (T.num b) .unit).raw).2 = 0 ∧ small3 (gB a b) = true ∧ isPair (max a b) (run0 5000 (gB a b)) = true ∧ tyR [] (gB a b) = .inl (.pair .nat .unit) := by decide +kernel
theorem factsC : ∀ a < 9, ∀ b < 9, (maxM (.fn .nat .nat) 0 (Tm.lam .nat (T.num a)).raw (Tm.lam .nat (.var 0)).raw).2 = 0 ∧ small3 (gC a) = true ∧ isNum (max a b) (run1 5000 (gC a) (.num b)) = true ∧ tyR [] (gC a) = .inl (.fn .nat .nat) := by decide +kernel
theorem factsN : ∀ a < 9, (T.num a).small = true ∧ (T.num a).idx 3 = true ∧ (T.num a).size ≤ 4000 := by decide +kernel
theorem semA (a b : Nat) : ∃ d, T.Sem [] (gA a b) .nat d := ⟨_, T.sem_mx .nat [] _ _ _ _ rfl (T.sem_num [] a) (T.sem_num [] b)⟩
theorem semB (a b : Nat) : ∃ d, T.Sem [] (gB a b) (.pair .nat .unit) d := ⟨_, T.sem_mx (.pair .nat .unit) [] _ _ _ _ rfl (.pair (T.sem_num [] a) .unit) (.pair (T.sem_num [] b) .unit)⟩
theorem semC (a : Nat) : ∃ d, T.Sem [] (gC a) (.fn .nat .nat) d := ⟨_, T.sem_mx (.fn .nat .nat) [] _ _ _ _ rfl (.lam (T.sem_num _ a)) (.lam (.var .here))⟩
theorem majorantGreatest (zs : List Int) : den X E 7 [.sl (zs.map ic) .dead] [] = some (.bool true, []) := by
  by_cases hf : zs.length ≤ 500
  rotate_left
  · have c1 := few1_c (E := E) zs
    simp [hf] at c1
    refine den_w0 (fn := Tryz.f7) (by rfl) (by rfl) (by kernel_rfl) rfl (by rfl) ?_
    simp -implicitDefEqProofs
    (repeat (first | refine Wp.seq ?_ | refine Wp.block ?_ | refine Wp.skip ?_ | refine Wp.exit ?_ | refine Wp.ret ?_ | refine thenK_n ?_ | refine thenK_r ?_ | refine thenK_e ?_ | refine blockK_n ?_ | refine blockK_r ?_ | refine blockK_e ?_ | refine blockK_o (by decide) ?_ | (refine Wp.condT ?_ ?_; focus (simp -implicitDefEqProofs [awake33_c, c1] <;> fail)) | (refine Wp.condF ?_ ?_; focus (simp -implicitDefEqProofs [awake33_c, c1] <;> fail)) | refine Wp.reg (by simp -implicitDefEqProofs [awake33_c, c1]; exact ⟨rfl, rfl⟩) ?_ | refine Wp.regA (by simp -implicitDefEqProofs [awake33_c, c1]; exact ⟨rfl, rfl⟩) (by rfl) ?_))
    (apply endK_r; (focus (simp -implicitDefEqProofs [Tryz.f7]; try rfl)); (focus (intro g; simp -implicitDefEqProofs [Tryz.f7])); exact ⟨_, rfl⟩)
  have c1 := few1_c (E := E) zs
  simp [hf] at c1
  have c2 := new1_c (E := E) zs
  have hz : zs.length ≤ 1000000 := by omega
  obtain ⟨p, i1, hp⟩ : ∃ p i1, nextP zs 0 9 = (p, i1) := ⟨_, _, rfl⟩
  obtain ⟨p0, p9, hi1⟩ := nextP_eq hp (by decide) (Nat.zero_le _)
  have c3 := fun g b S h => next_c (E := E) zs 0 9 (by decide) (by decide) (Nat.zero_le _) hz g b S h
  simp only [hp] at c3
  obtain ⟨q, i2, hq⟩ : ∃ q i2, nextP zs i1 9 = (q, i2) := ⟨_, _, rfl⟩
  obtain ⟨q0, q9, hi2⟩ := nextP_eq hq (by decide) hi1
  have c4 := fun g b S h => next_c (E := E) zs i1 9 (by decide) (by decide) hi1 hz g b S h
  simp only [hq] at c4
  obtain ⟨a, rfl⟩ : ∃ a : Nat, p = a := ⟨p.toNat, by omega⟩
  obtain ⟨b, rfl⟩ : ∃ b : Nat, q = b := ⟨q.toNat, by omega⟩
  have ha : a < 9 := by omega
  have hb : b < 9 := by omega
  obtain ⟨a1, a2, a3, a4⟩ := factsA a ha b hb
  obtain ⟨b1, b2, b3, b4⟩ := factsB a ha b hb
  obtain ⟨e1, e2, e3, e4⟩ := factsC a ha b hb
  simp only [small3, Bool.and_eq_true, decide_eq_true_eq] at a2 b2 e2
  obtain ⟨na1, na2, na3⟩ := factsN a ha
  obtain ⟨nb1, nb2, nb3⟩ := factsN b hb
  obtain ⟨u1, a3⟩ := isNum_eq a3
  obtain ⟨u2, b3⟩ := isPair_eq b3
  obtain ⟨u3, e3⟩ := isNum_eq e3
  have n1 := mkNum_c (E := E) (q := a) (by omega)
  have n2 := mkNum_c (E := E) (q := b) (by omega)
  -- the three greatest terms
  have m1 := mjMaxF_c (E := E) (s := .nat) (x := T.num a) (y := T.num b) (b := 3) (by decide) (by decide) (by decide) rfl na1 na2 (by omega) nb1 nb2 (by omega) a1
  rw [show T.mx .nat (T.num a) (T.num b) = gA a b from rfl] at m1
  have k2 := mjMaxF (E := E) (.pair .nat .unit) (.pair (T.num a) .unit) (.pair (T.num b) .unit) (b := 3) (by decide) (by decide) (by decide) rfl (by simp [Tm.small, na1]) (by simp [Tm.idx, na2]) (by simp only [Tm.size]; omega) (by simp [Tm.small, nb1]) (by simp [Tm.idx, nb2]) (by simp only [Tm.size]; omega) b1
  rw [show T.mx (.pair .nat .unit) (.pair (T.num a) .unit) (.pair (T.num b) .unit) = gB a b from rfl] at k2
  have k3 := mjMaxF (E := E) (.fn .nat .nat) (.lam .nat (T.num a)) (.lam .nat (.var 0)) (b := 3) (by decide) (by decide) (by decide) rfl (by simp [Tm.small, na1]; decide) (by simp [Tm.idx, na2]) (by simp only [Tm.size]; omega) (by decide) (by decide) (by decide) e1
  rw [show T.mx (.fn .nat .nat) (.lam .nat (T.num a)) (.lam .nat (.var 0)) = gC a from rfl] at k3
  -- what they return
  obtain ⟨d1, s1⟩ := semA a b
  obtain ⟨d2, s2⟩ := semB a b
  obtain ⟨d3, s3⟩ := semC a
  have v1 := revalE_c (E := E) (M := 5000) s1 rfl a2.1 a2.2 (by decide)
  have v2 := revalE_c (E := E) (M := 5000) s2 rfl b2.1 b2.2 (by decide)
  have w3 := rcall1 (E := E) (M := 5000) (C := 10) s3 rfl (VD.num b) (.num (by omega)) (by decide) e2.1 e2.2 (by decide)
  rw [a4, a3] at v1
  rw [b4, b3] at v2
  rw [e4, e3] at w3
  have hm : (if (a : Int) < b then (b : Int) else a) = (max a b : Nat) := by split <;> omega
  revert m1 k2 k3 v1 v2 w3
  generalize gA a b = x1
  generalize gB a b = x2
  generalize gC a = x3
  intro m1 k2 k3 v1 v2 w3
  generalize T.num a = ta at n1 m1 k2 k3
  generalize T.num b = tb at n2 m1 k2
  have m2 : ∀ (g : Nat) (S : St) (o1 o2 o3 o4 o5 o6 o7 o8 o9 o10 o11 o12 o13 o14 o15 : Own), callT (X.at g) (den X E) S 29 [.agg [.int .i64 3, .sl [[.int .i64 1, .sl [] o1], [.int .i64 5, .sl [] o2]] o3], .agg [.int .i64 10, .int .i64 0, .int .i64 0, .sl [] o4, .sl [[.int .i64 ta.raw.k, .int .i64 ta.raw.i, .int .i64 ta.raw.ty.k, .sl (List.map RT.cells ta.raw.ty.as) o5, .sl (List.map RM.cells ta.raw.as) o6], [.int .i64 13, .int .i64 0, .int .i64 0, .sl [] o7, .sl [] o8]] o9], .agg [.int .i64 10, .int .i64 0, .int .i64 0, .sl [] o10, .sl [[.int .i64 tb.raw.k, .int .i64 tb.raw.i, .int .i64 tb.raw.ty.k, .sl (List.map RT.cells tb.raw.ty.as) o11, .sl (List.map RM.cells tb.raw.as) o12], [.int .i64 13, .int .i64 0, .int .i64 0, .sl [] o13, .sl [] o14]] o15]] = some (.tup [.agg [.int .i64 x2.raw.k, .int .i64 x2.raw.i, .int .i64 x2.raw.ty.k, .sl (List.map RT.cells x2.raw.ty.as) .dead, .sl (List.map RM.cells x2.raw.as) .dead], .int .i64 0], S) := by
    intros
    simpa using call_up (cf := X.at _) (fn := Tryz.f29) (args' := [_, _, _]) (by kernel_rfl) (by simp) (by simp; try rfl) (by simpa [Tm.raw, Ty.raw] using k2) _
  have m3 : ∀ (g : Nat) (S : St) (o1 o2 o3 o4 o5 o6 o7 o8 o9 o10 o11 : Own), callT (X.at g) (den X E) S 29 [.agg [.int .i64 4, .sl [[.int .i64 1, .sl [] o1], [.int .i64 1, .sl [] o2]] o3], .agg [.int .i64 2, .int .i64 0, .int .i64 1, .sl [] o4, .sl [[.int .i64 ta.raw.k, .int .i64 ta.raw.i, .int .i64 ta.raw.ty.k, .sl (List.map RT.cells ta.raw.ty.as) o5, .sl (List.map RM.cells ta.raw.as) o6]] o7], .agg [.int .i64 2, .int .i64 0, .int .i64 1, .sl [] o8, .sl [[.int .i64 1, .int .i64 0, .int .i64 0, .sl [] o9, .sl [] o10]] o11]] = some (.tup [.agg [.int .i64 x3.raw.k, .int .i64 x3.raw.i, .int .i64 x3.raw.ty.k, .sl (List.map RT.cells x3.raw.ty.as) .dead, .sl (List.map RM.cells x3.raw.as) .dead], .int .i64 0], S) := by
    intros
    simpa using call_up (cf := X.at _) (fn := Tryz.f29) (args' := [_, _, _]) (by kernel_rfl) (by simp) (by simp; try rfl) (by simpa [Tm.raw, Ty.raw] using k3) _
  have v3 : ∀ (g : Nat) (S : St) (o1 o2 o3 o4 o5 : Own), callT (X.at g) (den X E) S 19 [.agg [.int .i64 x3.raw.k, .int .i64 x3.raw.i, .int .i64 x3.raw.ty.k, .sl (List.map RT.cells x3.raw.ty.as) o1, .sl (List.map RM.cells x3.raw.as) o2], .sl [[.int .i64 1, .int .i64 b, .sl [] o3, .sl [] o4]] o5, .int .i64 5000] = some (.tup [.agg [.int .i64 1, .int .i64 (max a b : Nat), .sl [] .dead, .sl [] .dead], .int .i64 u3, .int .i64 0], S) := by
    intros
    simpa using call_up (cf := X.at _) (fn := Tryz.f19) (args' := [_, _, _]) (by kernel_rfl) (by simp) (by simp; try rfl) (by simpa [callEnc, callRes] using w3) _
  have o1 := pPair23_c (E := E) (.mk 1 []) (.mk 5 [])
  have o2 := pFun23_c (E := E) (.mk 1 []) (.mk 1 [])
  have o3 := pNode24_c (E := E) 10 [ta.raw, .mk 13 0 noTy []]
  have o4 := pNode24_c (E := E) 10 [tb.raw, .mk 13 0 noTy []]
  have o5 := pLam24_c (E := E) (.mk 1 []) ta.raw
  have o6 := pLam24_c (E := E) (.mk 1 []) (.mk 1 0 noTy [])
  simp [Ty.raw] at n1 n2 m1 o1 o2 o3 o4 o5 o6
  simp [callRes] at v1 v2
  simp at v3 hm
  refine den_w0 (fn := Tryz.f7) (by rfl) (by rfl) (by kernel_rfl) rfl (by rfl) ?_
  simp -implicitDefEqProofs
  (repeat (first | refine Wp.seq ?_ | refine Wp.block ?_ | refine Wp.skip ?_ | refine Wp.exit ?_ | refine Wp.ret ?_ | refine thenK_n ?_ | refine thenK_r ?_ | refine thenK_e ?_ | refine blockK_n ?_ | refine blockK_r ?_ | refine blockK_e ?_ | refine blockK_o (by decide) ?_ | (refine Wp.condT ?_ ?_; focus (simp -implicitDefEqProofs [awake33_c, c1, c2, c3, c4, n1, n2, m1, m2, m3, v1, v2, v3, o1, o2, o3, o4, o5, o6, hm, pPlayNat_c, pUnit23_c, pUnit24_c, pVar24_c] <;> fail)) | (refine Wp.condF ?_ ?_; focus (simp -implicitDefEqProofs [awake33_c, c1, c2, c3, c4, n1, n2, m1, m2, m3, v1, v2, v3, o1, o2, o3, o4, o5, o6, hm, pPlayNat_c, pUnit23_c, pUnit24_c, pVar24_c] <;> fail)) | refine Wp.reg (by simp -implicitDefEqProofs [awake33_c, c1, c2, c3, c4, n1, n2, m1, m2, m3, v1, v2, v3, o1, o2, o3, o4, o5, o6, hm, pPlayNat_c, pUnit23_c, pUnit24_c, pVar24_c]; exact ⟨rfl, rfl⟩) ?_ | refine Wp.regA (by simp -implicitDefEqProofs [awake33_c, c1, c2, c3, c4, n1, n2, m1, m2, m3, v1, v2, v3, o1, o2, o3, o4, o5, o6, hm, pPlayNat_c, pUnit23_c, pUnit24_c, pVar24_c]; exact ⟨rfl, rfl⟩) (by rfl) ?_))
  (apply endK_r; (focus (simp -implicitDefEqProofs [Tryz.f7]; try rfl)); (focus (intro g; simp -implicitDefEqProofs [Tryz.f7])); exact ⟨_, rfl⟩)
end M
end Go.Proofs.YthclcchnodjjpaaGreatDoor
