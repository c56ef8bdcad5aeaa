/- A part of the proof: InA. -/
import Derived.Test.YthclcchnodjjpaaGreatDoorG12
import Derived.Test.YthclcchnodjjpaaGreatDoorG14
import Derived.Test.YthclcchnodjjpaaGreatDoorG25
/- ref01.Context; ref02.ok, infer, Typed, TypeOf. -/
set_option linter.unusedVariables false
set_option linter.unusedSimpArgs false
set_option maxRecDepth 10000
set_option maxHeartbeats 4000000
namespace Go.Proofs.YthclcchnodjjpaaGreatDoor
namespace M
attribute [local irreducible] Wp thenK blockK endK
variable {E : Oracle}
open T (Ty Tm noTy Res tyR resT resE combT fit)
attribute [local simp] noTy
theorem context1 (g : List Ty) (hg : g.length ≤ 16) (hs : ∀ s ∈ g, s.size ≤ 64) : den X E 59 [.sl (g.map (RT.cells ∘ Ty.raw)) .dead] [] = some (.int .i64 0, []) := by
  have hc0 : ∀ s ∈ g, den X E 99 [s.raw.enc] [] = some (.int .i64 0, []) := fun s h => by
    have := check1 (E := E) s.raw (by rw [Ty.raw_nodes]; have := hs s h; omega)
    rwa [s.raw_err (hs s h)] at this
  have hc : ∀ s ∈ g, ∀ (g : Nat) (S : St) (o1 : Own), callT (X.at g) (den X E) S 99 [.agg [.int .i64 s.raw.k, .sl (List.map RT.cells s.raw.as) o1]] = some (.int .i64 0, S) := by
    intros
    simpa using call_up (cf := X.at _) (fn := Tryz.f99) (args' := [_]) (by kernel_rfl) (by simp) (by simp; try rfl) (by simpa using hc0 _ (by assumption)) _
  have h16 : ¬ (16 : Int) < g.length := by omega
  refine den_w0 (fn := Tryz.f59) (by rfl) (by rfl) (by kernel_rfl) rfl (by rfl) ?_
  simp -implicitDefEqProofs
  (repeat (first | refine Wp.seq ?_ | refine Wp.block ?_ | refine Wp.skip ?_ | refine Wp.exit ?_ | refine Wp.ret ?_ | refine thenK_n ?_ | refine thenK_r ?_ | refine thenK_e ?_ | refine blockK_n ?_ | refine blockK_r ?_ | refine blockK_e ?_ | refine blockK_o (by decide) ?_ | (refine Wp.condT ?_ ?_; focus (simp -implicitDefEqProofs [h16] <;> fail)) | (refine Wp.condF ?_ ?_; focus (simp -implicitDefEqProofs [h16] <;> fail)) | refine Wp.reg (by simp -implicitDefEqProofs [h16]; exact ⟨rfl, rfl⟩) ?_ | refine Wp.regA (by simp -implicitDefEqProofs [h16]; exact ⟨rfl, rfl⟩) (by rfl) ?_))
  refine Wp.loopF [2, 4, 5, 11, 12, 13, 14, 15, 16, 17, 18, 19, 20] [] (fun n w c tk => ∃ done rest, g = done ++ rest ∧ n = rest.length ∧ w 11 = .int .i64 done.length) (g.length) ?_ ?_ ?_ ?_
  · rfl
  · rfl
  · exact ⟨[], g, by simp, rfl, rfl⟩
  rintro n w c junk tk r σ ⟨done, rest, hl, rfl, h11⟩ hr hσ
  simp -implicitDefEqProofs [h11] at hr hσ
  subst hr hσ
  rcases rest with _ | ⟨a, rest⟩
  · simp at hl
    subst hl
    (repeat (first | refine Wp.seq ?_ | refine Wp.block ?_ | refine Wp.skip ?_ | refine Wp.exit ?_ | refine Wp.ret ?_ | refine thenK_n ?_ | refine thenK_r ?_ | refine thenK_e ?_ | refine blockK_n ?_ | refine blockK_r ?_ | refine blockK_e ?_ | refine blockK_o (by decide) ?_ | (refine Wp.condT ?_ ?_; focus (simp -implicitDefEqProofs <;> fail)) | (refine Wp.condF ?_ ?_; focus (simp -implicitDefEqProofs <;> fail)) | refine Wp.reg (by simp -implicitDefEqProofs; exact ⟨rfl, rfl⟩) ?_ | refine Wp.regA (by simp -implicitDefEqProofs; exact ⟨rfl, rfl⟩) (by rfl) ?_))
    (apply endK_r; (focus (simp -implicitDefEqProofs [Tryz.f59]; try rfl)); (focus (intro g; simp -implicitDefEqProofs [Tryz.f59])); exact ⟨_, rfl⟩)
  · have ha : el g done.length = some a := by simp [hl]
    have hlt : done.length < g.length := by simp [hl]
    have hmem : a ∈ g := by simp [hl]
    have hw : IntKind.i64.wrap ((done.length : Int) + 1) = done.length + 1 := IntWalk.i64_in _ (by omega)
    have hi := hc a hmem
    (repeat (first | refine Wp.seq ?_ | refine Wp.block ?_ | refine Wp.skip ?_ | refine Wp.exit ?_ | refine Wp.ret ?_ | refine thenK_n ?_ | refine thenK_r ?_ | refine thenK_e ?_ | refine blockK_n ?_ | refine blockK_r ?_ | refine blockK_e ?_ | refine blockK_o (by decide) ?_ | (refine Wp.condT ?_ ?_; focus (simp -implicitDefEqProofs [ha, hlt, hw, hi] <;> fail)) | (refine Wp.condF ?_ ?_; focus (simp -implicitDefEqProofs [ha, hlt, hw, hi] <;> fail)) | refine Wp.reg (by simp -implicitDefEqProofs [ha, hlt, hw, hi]; exact ⟨rfl, rfl⟩) ?_ | refine Wp.regA (by simp -implicitDefEqProofs [ha, hlt, hw, hi]; exact ⟨rfl, rfl⟩) (by rfl) ?_))
    refine ⟨by simp, ⟨_, by simp -implicitDefEqProofs; rfl⟩, rest.length, by simp, done ++ [a], rest, by simp [hl], rfl, by simp⟩
theorem context1_c {g' : List Ty} (hg : g'.length ≤ 16) (hs : ∀ s ∈ g', s.size ≤ 64) (g : Nat) (S : St) (o1 : Own) : callT (X.at g) (den X E) S 59 [.sl (g'.map (RT.cells ∘ Ty.raw)) o1] = some (.int .i64 0, S) := by
  simpa using call_up (cf := X.at g) (fn := Tryz.f59) (args' := [.sl (g'.map (RT.cells ∘ Ty.raw)) o1]) (by kernel_rfl) (by simp) (by simp; try rfl) (context1 g' hg hs) S

theorem ok2 (s : Ty) (hs : s.size ≤ 1000) : den X E 117 [s.raw.enc] [] = some (.tup [(resT (fit s)).enc, .int .i64 (resE (fit s))], []) := by
  have hn : s.raw.nodes ≤ 1000000000 := by rw [Ty.raw_nodes]; omega
  have c1 := check1_c (E := E) (k := s.raw.k) (ts := s.raw.as) (by simpa using hn)
  by_cases h : s.size ≤ 64
  · have e1 := s.raw_err h
    have e2 : fit s = .inl s := by simp [fit, h]
    simp [e1] at c1
    rw [e2]
    simp only [resT, resE]
    refine den_w0 (fn := Tryz.f117) (by rfl) (by rfl) (by kernel_rfl) rfl (by rfl) ?_
    simp -implicitDefEqProofs
    (repeat (first | refine Wp.seq ?_ | refine Wp.block ?_ | refine Wp.skip ?_ | refine Wp.exit ?_ | refine Wp.ret ?_ | refine thenK_n ?_ | refine thenK_r ?_ | refine thenK_e ?_ | refine blockK_n ?_ | refine blockK_r ?_ | refine blockK_e ?_ | refine blockK_o (by decide) ?_ | (refine Wp.condT ?_ ?_; focus (simp -implicitDefEqProofs [c1] <;> fail)) | (refine Wp.condF ?_ ?_; focus (simp -implicitDefEqProofs [c1] <;> fail)) | refine Wp.reg (by simp -implicitDefEqProofs [c1]; exact ⟨rfl, rfl⟩) ?_ | refine Wp.regA (by simp -implicitDefEqProofs [c1]; exact ⟨rfl, rfl⟩) (by rfl) ?_))
    (apply endK_r; (focus (simp -implicitDefEqProofs [Tryz.f117]; try rfl)); (focus (intro g; simp -implicitDefEqProofs [Tryz.f117])); exact ⟨_, rfl⟩)
  · have e1 : s.raw.err = 4 := by simp [RT.err, s.raw_ok, s.raw_nodes, h]
    have e2 : fit s = .inr 4 := by simp [fit, h]
    simp [e1] at c1
    rw [e2]
    simp only [resT, resE]
    refine den_w0 (fn := Tryz.f117) (by rfl) (by rfl) (by kernel_rfl) rfl (by rfl) ?_
    simp -implicitDefEqProofs
    (repeat (first | refine Wp.seq ?_ | refine Wp.block ?_ | refine Wp.skip ?_ | refine Wp.exit ?_ | refine Wp.ret ?_ | refine thenK_n ?_ | refine thenK_r ?_ | refine thenK_e ?_ | refine blockK_n ?_ | refine blockK_r ?_ | refine blockK_e ?_ | refine blockK_o (by decide) ?_ | (refine Wp.condT ?_ ?_; focus (simp -implicitDefEqProofs [c1] <;> fail)) | (refine Wp.condF ?_ ?_; focus (simp -implicitDefEqProofs [c1] <;> fail)) | refine Wp.reg (by simp -implicitDefEqProofs [c1]; exact ⟨rfl, rfl⟩) ?_ | refine Wp.regA (by simp -implicitDefEqProofs [c1]; exact ⟨rfl, rfl⟩) (by rfl) ?_))
    (apply endK_r; (focus (simp -implicitDefEqProofs [Tryz.f117]; try rfl)); (focus (intro g; simp -implicitDefEqProofs [Tryz.f117])); exact ⟨_, rfl⟩)
theorem ok2_c {s : Ty} (hs : s.size ≤ 1000) (g : Nat) (S : St) (o1 : Own) : callT (X.at g) (den X E) S 117 [.agg [.int .i64 s.raw.k, .sl (List.map RT.cells s.raw.as) o1]] = some (.tup [.agg [.int .i64 (resT (fit s)).k, .sl (List.map RT.cells (resT (fit s)).as) .dead], .int .i64 (resE (fit s))], S) := by
  simpa using call_up (cf := X.at g) (fn := Tryz.f117) (args' := [.agg [.int .i64 s.raw.k, .sl (List.map RT.cells s.raw.as) o1]]) (by kernel_rfl) (by simp) (by simp; try rfl) (ok2 s hs) S

theorem sameTy (s u : Ty) (hs : s.size ≤ 100000) : den X E 17 [s.raw.enc, u.raw.enc] [] = some (.bool (decide (s = u)), []) := by
  rw [same1 s.raw u.raw (by rw [Ty.raw_nodes]; omega), Ty.raw_beq]
theorem sameTy_c {s u : Ty} (hs : s.size ≤ 100000) (g : Nat) (S : St) (o1 o2 : Own) : callT (X.at g) (den X E) S 17 [.agg [.int .i64 s.raw.k, .sl (List.map RT.cells s.raw.as) o1], .agg [.int .i64 u.raw.k, .sl (List.map RT.cells u.raw.as) o2]] = some (.bool (decide (s = u)), S) := by
  simpa using call_up (cf := X.at g) (fn := Tryz.f17) (args' := [.agg [.int .i64 s.raw.k, .sl (List.map RT.cells s.raw.as) o1], .agg [.int .i64 u.raw.k, .sl (List.map RT.cells u.raw.as) o2]]) (by kernel_rfl) (by simp) (by simp; try rfl) (sameTy s u hs) S

theorem infer_lam (s : Ty) (b : Tm) (G : List Ty) (hs : s.size ≤ 64) (hb : b.small = true) (hgl : G.length ≤ 100000) (hg : ∀ s ∈ G, s.size ≤ 64)
    (k0 : den X E 100 [.sl ((G ++ [s]).map (RT.cells ∘ Ty.raw)) .dead, b.raw.enc] [] = some (.tup [(resT (tyR (G ++ [s]).reverse b)).enc, .int .i64 (resE (tyR (G ++ [s]).reverse b))], [])) :
    den X E 100 [.sl (G.map (RT.cells ∘ Ty.raw)) .dead, (Tm.lam s b).raw.enc] [] = some (.tup [(resT (tyR G.reverse (.lam s b))).enc, .int .i64 (resE (tyR G.reverse (.lam s b)))], []) := by
  obtain ⟨x0, hx0⟩ : ∃ x0, x0 = AV.tup [RT.enc (resT (tyR G.reverse (.lam s b))), .int .i64 (resE (tyR G.reverse (.lam s b)))] := ⟨_, rfl⟩
  rw [← hx0]
  have hty : tyR G.reverse (.lam s b) = (tyR (s :: G.reverse) b).bind fun u => fit (.fn s u) := rfl
  have hrev : (G ++ [s]).reverse = s :: G.reverse := by simp
  rw [hrev] at k0
  have hts := fun u => T.tyR_small b (g := s :: G.reverse) (s := u) (by intro u hu; simp at hu; rcases hu with rfl | hu; exact hs; exact hg u hu) hb
  obtain ⟨q, hq⟩ : ∃ q, tyR (s :: G.reverse) b = q := ⟨_, rfl⟩
  rw [hq] at hty k0 hts
  rw [hty] at hx0
  clear hty
  have c1 : ∀ (g : Nat) (S : St) (o1 o2 o3 o4 : Own), callT (X.at g) (den X E) S 100 [.sl (G.map (RT.cells ∘ Ty.raw) ++ [[.int .i64 s.raw.k, .sl (s.raw.as.map RT.cells) o1]]) o2, .agg [.int .i64 b.raw.k, .int .i64 b.raw.i, .int .i64 b.raw.ty.k, .sl (List.map RT.cells b.raw.ty.as) o3, .sl (List.map RM.cells b.raw.as) o4]] = some (.tup [.agg [.int .i64 (resT q).k, .sl (List.map RT.cells (resT q).as) .dead], .int .i64 (resE q)], S) := by
    intros
    simpa using call_up (cf := X.at _) (fn := Tryz.f100) (args' := [_, _]) (by kernel_rfl) (by simp) (by simp; try rfl) (by simpa using k0) _
  have hr1 : (G.length + 1) * 32 ≤ 70368744177664 := by omega
  have hsl : ∀ k : Nat, sliceT (X.at k) 27 (.sl (List.map (RT.cells ∘ Ty.raw) G) .dead) none (some (some (.int .i64 G.length))) (some (some (.int .i64 G.length))) = some (.sl (List.map (RT.cells ∘ Ty.raw) G) .full) := by
    intro k
    have h1 : (List.map (RT.cells ∘ Ty.raw) G).all (fun c => c.length == 2) = true := by simp
    have htk : List.take G.length (List.map (RT.cells ∘ Ty.raw) G) = List.map (RT.cells ∘ Ty.raw) G := by rw [List.take_of_length_le (by simp)]
    simp [sliceT, h1, htk]
  cases q with
  | inr e =>
    simp only [Res.bind, resT, resE] at hx0 c1
    simp at hx0 c1
    have he := T.tyR_err b hq
    subst hx0
    simp only [Tm.raw]
    refine den_w0 (fn := Tryz.f100) (by rfl) (by rfl) (by kernel_rfl) rfl (by rfl) ?_
    simp -implicitDefEqProofs
    (repeat (first | refine Wp.seq ?_ | refine Wp.block ?_ | refine Wp.skip ?_ | refine Wp.exit ?_ | refine Wp.ret ?_ | refine thenK_n ?_ | refine thenK_r ?_ | refine thenK_e ?_ | refine blockK_n ?_ | refine blockK_r ?_ | refine blockK_e ?_ | refine blockK_o (by decide) ?_ | (refine Wp.condT ?_ ?_; focus (simp -implicitDefEqProofs [-sliceT, hsl, hr1, c1, he] <;> fail)) | (refine Wp.condF ?_ ?_; focus (simp -implicitDefEqProofs [-sliceT, hsl, hr1, c1, he] <;> fail)) | refine Wp.reg (by simp -implicitDefEqProofs [-sliceT, hsl, hr1, c1, he]; exact ⟨rfl, rfl⟩) ?_ | refine Wp.regA (by simp -implicitDefEqProofs [-sliceT, hsl, hr1, c1, he]; exact ⟨rfl, rfl⟩) (by rfl) ?_))
    (apply endK_r; (focus (simp -implicitDefEqProofs [Tryz.f100]; try rfl)); (focus (intro g; simp -implicitDefEqProofs [Tryz.f100])); exact ⟨_, rfl⟩)
  | inl u =>
    have hu := hts u rfl
    simp only [Res.bind] at hx0
    simp only [resT, resE] at c1
    have c2 := fun1_c (E := E) (k := s.raw.k) (ts := s.raw.as) (m := u.raw.k) (us := u.raw.as) (by simp [Ty.raw_nodes]; omega) (by simp [Ty.raw_nodes]; omega)
    have c3 := ok2_c (E := E) (s := .fn s u) (by simp only [Ty.size]; omega)
    obtain ⟨z, hz⟩ : ∃ z, fit (.fn s u) = z := ⟨_, rfl⟩
    rw [hz] at hx0 c3
    simp [Ty.raw] at hx0 c1 c2 c3
    subst hx0
    simp only [Tm.raw]
    refine den_w0 (fn := Tryz.f100) (by rfl) (by rfl) (by kernel_rfl) rfl (by rfl) ?_
    simp -implicitDefEqProofs
    (repeat (first | refine Wp.seq ?_ | refine Wp.block ?_ | refine Wp.skip ?_ | refine Wp.exit ?_ | refine Wp.ret ?_ | refine thenK_n ?_ | refine thenK_r ?_ | refine thenK_e ?_ | refine blockK_n ?_ | refine blockK_r ?_ | refine blockK_e ?_ | refine blockK_o (by decide) ?_ | (refine Wp.condT ?_ ?_; focus (simp -implicitDefEqProofs [-sliceT, hsl, hr1, c1, c2, c3] <;> fail)) | (refine Wp.condF ?_ ?_; focus (simp -implicitDefEqProofs [-sliceT, hsl, hr1, c1, c2, c3] <;> fail)) | refine Wp.reg (by simp -implicitDefEqProofs [-sliceT, hsl, hr1, c1, c2, c3]; exact ⟨rfl, rfl⟩) ?_ | refine Wp.regA (by simp -implicitDefEqProofs [-sliceT, hsl, hr1, c1, c2, c3]; exact ⟨rfl, rfl⟩) (by rfl) ?_))
    (apply endK_r; (focus (simp -implicitDefEqProofs [Tryz.f100]; try rfl)); (focus (intro g; simp -implicitDefEqProofs [Tryz.f100])); exact ⟨_, rfl⟩)
theorem infer1 : ∀ (n : Nat) (t : Tm) (G : List Ty), t.size ≤ n → n ≤ 4096 → G.length + n ≤ 100000 → t.small = true → (∀ s ∈ G, s.size ≤ 64) →
    den X E 100 [.sl (G.map (RT.cells ∘ Ty.raw)) .dead, t.raw.enc] [] = some (.tup [(resT (tyR G.reverse t)).enc, .int .i64 (resE (tyR G.reverse t))], []) := by
  intro n
  induction n with
  | zero => intro t G ht; have := t.size_pos; omega
  | succ n ih =>
  intro t G ht hn hgl hs hg
  obtain ⟨x0, hx0⟩ : ∃ x0, x0 = AV.tup [RT.enc (resT (tyR G.reverse t)), .int .i64 (resE (tyR G.reverse t))] := ⟨_, rfl⟩
  rw [← hx0]
  by_cases h2 : t.two = true
  rotate_left
  · cases t with
    | var i =>
      by_cases hi : i < G.length
      · obtain ⟨s, hsel⟩ : ∃ s, G[G.length - 1 - i]? = some s := ⟨_, List.getElem?_eq_getElem (by omega)⟩
        have hel : el G (G.length - 1 - i) = some s := hsel
        have hmem : s ∈ G := List.mem_of_getElem? hsel
        have hty : tyR G.reverse (.var i) = .inl s := by simp only [tyR]; rw [List.getElem?_reverse hi, hsel]
        rw [hty] at hx0
        simp only [resT, resE] at hx0
        have c1 := copy_c (E := E) (k := s.raw.k) (ts := s.raw.as) (by simp [Ty.raw_nodes]; have := hg s hmem; omega)
        simp at c1 hx0
        subst hx0
        have h1 : ¬ (G.length : Int) ≤ i := by omega
        have hw1 : IntKind.i64.wrap ((G.length : Int) - 1) = G.length - 1 := IntWalk.i64_in _ (by omega)
        have hw2 : IntKind.i64.wrap ((G.length : Int) - 1 - i) = (G.length : Int) - 1 - i := IntWalk.i64_in _ (by omega)
        have hidx : ((G.length : Int) - 1 - i).toNat = G.length - 1 - i := by omega
        have hge : (i : Int) ≤ (G.length : Int) - 1 := by omega
        simp only [Tm.raw]
        refine den_w0 (fn := Tryz.f100) (by rfl) (by rfl) (by kernel_rfl) rfl (by rfl) ?_
        simp -implicitDefEqProofs
        (repeat (first | refine Wp.seq ?_ | refine Wp.block ?_ | refine Wp.skip ?_ | refine Wp.exit ?_ | refine Wp.ret ?_ | refine thenK_n ?_ | refine thenK_r ?_ | refine thenK_e ?_ | refine blockK_n ?_ | refine blockK_r ?_ | refine blockK_e ?_ | refine blockK_o (by decide) ?_ | (refine Wp.condT ?_ ?_; focus (simp -implicitDefEqProofs [h1, hi, hw1, hw2, hidx, hge, hel, c1] <;> fail)) | (refine Wp.condF ?_ ?_; focus (simp -implicitDefEqProofs [h1, hi, hw1, hw2, hidx, hge, hel, c1] <;> fail)) | refine Wp.reg (by simp -implicitDefEqProofs [h1, hi, hw1, hw2, hidx, hge, hel, c1]; exact ⟨rfl, rfl⟩) ?_ | refine Wp.regA (by simp -implicitDefEqProofs [h1, hi, hw1, hw2, hidx, hge, hel, c1]; exact ⟨rfl, rfl⟩) (by rfl) ?_))
        (apply endK_r; (focus (simp -implicitDefEqProofs [Tryz.f100]; try rfl)); (focus (intro g; simp -implicitDefEqProofs [Tryz.f100])); exact ⟨_, rfl⟩)
      · have hty : tyR G.reverse (.var i) = .inr 6 := by simp only [tyR]; rw [List.getElem?_eq_none (by simp; omega)]
        rw [hty] at hx0
        simp only [resT, resE] at hx0
        simp at hx0
        subst hx0
        have h1 : (G.length : Int) ≤ i := by omega
        simp only [Tm.raw]
        refine den_w0 (fn := Tryz.f100) (by rfl) (by rfl) (by kernel_rfl) rfl (by rfl) ?_
        simp -implicitDefEqProofs
        (repeat (first | refine Wp.seq ?_ | refine Wp.block ?_ | refine Wp.skip ?_ | refine Wp.exit ?_ | refine Wp.ret ?_ | refine thenK_n ?_ | refine thenK_r ?_ | refine thenK_e ?_ | refine blockK_n ?_ | refine blockK_r ?_ | refine blockK_e ?_ | refine blockK_o (by decide) ?_ | (refine Wp.condT ?_ ?_; focus (simp -implicitDefEqProofs [h1, hi] <;> fail)) | (refine Wp.condF ?_ ?_; focus (simp -implicitDefEqProofs [h1, hi] <;> fail)) | refine Wp.reg (by simp -implicitDefEqProofs [h1, hi]; exact ⟨rfl, rfl⟩) ?_ | refine Wp.regA (by simp -implicitDefEqProofs [h1, hi]; exact ⟨rfl, rfl⟩) (by rfl) ?_))
        (apply endK_r; (focus (simp -implicitDefEqProofs [Tryz.f100]; try rfl)); (focus (intro g; simp -implicitDefEqProofs [Tryz.f100])); exact ⟨_, rfl⟩)
    | lam s b =>
      simp only [Tm.size] at ht
      simp only [Tm.small, Bool.and_eq_true, decide_eq_true_eq] at hs
      have hg' : ∀ u ∈ G ++ [s], u.size ≤ 64 := by
        intro u hu
        simp only [List.mem_append, List.mem_singleton] at hu
        rcases hu with hu | rfl
        · exact hg u hu
        · exact hs.1
      rw [hx0]
      exact infer_lam s b G hs.1 hs.2 (by omega) hg (ih b (G ++ [s]) (by omega) (by omega) (by simp; omega) hs.2 hg')
    | _ => simp [Tm.two] at h2
  have ihc : ∀ a ∈ t.kids, ∀ (g : Nat) (S : St) (o1 o2 o3 : Own), callT (X.at g) (den X E) S 100 [.sl (G.map (RT.cells ∘ Ty.raw)) o1, .agg [.int .i64 a.raw.k, .int .i64 a.raw.i, .int .i64 a.raw.ty.k, .sl (List.map RT.cells a.raw.ty.as) o2, .sl (List.map RM.cells a.raw.as) o3]] = some (.tup [.agg [.int .i64 (resT (tyR G.reverse a)).k, .sl (List.map RT.cells (resT (tyR G.reverse a)).as) .dead], .int .i64 (resE (tyR G.reverse a))], S) := by
    intros
    simpa using call_up (cf := X.at _) (fn := Tryz.f100) (args' := [_, _]) (by kernel_rfl) (by simp) (by simp; try rfl) (by simpa using ih _ G (by have := Tm.kids_size (t := t) (by assumption); omega) (by omega) (by omega) (Tm.kids_small (t := t) (by assumption) hs) hg) _
  have hlen := t.kids_len
  have has := t.raw_as
  have hfail := fun (a : Tm) (done rest : List Tm) (ss : List Ty) (e : Int) => T.tyR_fail (g := G.reverse) (t := t) (a := a) (done := done) (rest := rest) (ss := ss) (e := e) h2
  have hcomb0 := fun (ss : List Ty) => T.tyR_comb (g := G.reverse) (t := t) (ss := ss) h2
  have hsm := fun (a : Tm) (h : a ∈ t.kids) (u : Ty) => T.tyR_small a (g := G.reverse) (s := u) (by intro u hu; exact hg u (by simpa using hu)) (Tm.kids_small h hs)
  have hk1 : ¬ t.raw.k = 1 ∧ ¬ t.raw.k = 2 := by cases t <;> first | (simp [Tm.two] at h2; done) | exact ⟨by simp [Tm.raw], by simp [Tm.raw]⟩
  obtain ⟨K, hK⟩ : ∃ K, K = t.kids := ⟨_, rfl⟩
  rw [← hK] at ihc hlen has hfail hcomb0 hsm
  simp only [RM.enc_eq, has]
  refine den_w0 (fn := Tryz.f100) (by rfl) (by rfl) (by kernel_rfl) rfl (by rfl) ?_
  simp -implicitDefEqProofs
  (repeat (first | refine Wp.seq ?_ | refine Wp.block ?_ | refine Wp.skip ?_ | refine Wp.exit ?_ | refine Wp.ret ?_ | refine thenK_n ?_ | refine thenK_r ?_ | refine thenK_e ?_ | refine blockK_n ?_ | refine blockK_r ?_ | refine blockK_e ?_ | refine blockK_o (by decide) ?_ | (refine Wp.condT ?_ ?_; focus (simp -implicitDefEqProofs [hk1.1, hk1.2] <;> fail)) | (refine Wp.condF ?_ ?_; focus (simp -implicitDefEqProofs [hk1.1, hk1.2] <;> fail)) | refine Wp.reg (by simp -implicitDefEqProofs [hk1.1, hk1.2]; exact ⟨rfl, rfl⟩) ?_ | refine Wp.regA (by simp -implicitDefEqProofs [hk1.1, hk1.2]; exact ⟨rfl, rfl⟩) (by rfl) ?_))
  refine Wp.loopF [5, 8, 10, 11, 12, 69, 70, 71, 72, 73, 74, 75, 76, 77, 78, 79, 80, 81, 82, 83, 84, 85, 86, 87] [] (fun n w c tk => ∃ done rest ss o, K = done ++ rest ∧ n = rest.length ∧ w 69 = .int .i64 done.length ∧ w 8 = .sl (List.map (RT.cells ∘ Ty.raw) ss) o ∧ done.map (tyR G.reverse) = ss.map .inl ∧ (∀ s ∈ ss, s.size ≤ 64) ∧ Can tk (List.map (RT.cells ∘ Ty.raw) ss) o) (K.length) ?_ ?_ ?_ ?_
  · rfl
  · rfl
  · exact ⟨[], K, [], .full, by simp, rfl, rfl, rfl, rfl, by simp, trivial⟩
  rintro n' w c junk tk r σ ⟨done, rest, ss, o, hl, rfl, h69, h8, hss, hsz, hcan⟩ hr hσ
  simp -implicitDefEqProofs [h69, h8] at hr hσ
  subst hr hσ
  have hdl : done.length = ss.length := by have := congrArg List.length hss; simpa using this
  rcases rest with _ | ⟨a, rest⟩
  rotate_left
  · have ha : el K done.length = some a := by simp [hl]
    have hlt : done.length < K.length := by simp [hl]
    have hmem : a ∈ K := by simp [hl]
    have hw : IntKind.i64.wrap ((done.length : Int) + 1) = done.length + 1 := IntWalk.i64_in _ (by omega)
    have hia := ihc a hmem
    obtain ⟨q, hq⟩ : ∃ q, tyR G.reverse a = q := ⟨_, rfl⟩
    rw [hq] at hia
    cases q with
    | inl s =>
      obtain ⟨o', tk', happ, hcan'⟩ := can_app hcan 2 (by decide) (by simp) (by simp; omega)
      simp only [resT, resE] at hia
      (repeat (first | refine Wp.seq ?_ | refine Wp.block ?_ | refine Wp.skip ?_ | refine Wp.exit ?_ | refine Wp.ret ?_ | refine thenK_n ?_ | refine thenK_r ?_ | refine thenK_e ?_ | refine blockK_n ?_ | refine blockK_r ?_ | refine blockK_e ?_ | refine blockK_o (by decide) ?_ | (refine Wp.condT ?_ ?_; focus (simp -implicitDefEqProofs [ha, hlt, hw, happ, hia] <;> fail)) | (refine Wp.condF ?_ ?_; focus (simp -implicitDefEqProofs [ha, hlt, hw, happ, hia] <;> fail)) | refine Wp.reg (by simp -implicitDefEqProofs [ha, hlt, hw, happ, hia]; exact ⟨rfl, rfl⟩) ?_ | refine Wp.regA (by simp -implicitDefEqProofs [ha, hlt, hw, happ, hia]; exact ⟨rfl, rfl⟩) (by rfl) ?_))
      refine ⟨by simp, ⟨_, by simp -implicitDefEqProofs; rfl⟩, rest.length, by simp, done ++ [a], rest, ss ++ [s], o', by simp [hl], rfl, by simp, by simp, by simp [hss, hq], by intro u hu; simp at hu; rcases hu with hu | rfl; exact hsz u hu; exact hsm a hmem _ hq, by simpa using hcan' _⟩
    | inr e =>
      have hf := hfail a done rest ss e hl hss hq
      rw [hf] at hx0
      simp only [resT, resE] at hia hx0
      have he := T.tyR_err a hq
      simp at hx0
      subst hx0
      (repeat (first | refine Wp.seq ?_ | refine Wp.block ?_ | refine Wp.skip ?_ | refine Wp.exit ?_ | refine Wp.ret ?_ | refine thenK_n ?_ | refine thenK_r ?_ | refine thenK_e ?_ | refine blockK_n ?_ | refine blockK_r ?_ | refine blockK_e ?_ | refine blockK_o (by decide) ?_ | (refine Wp.condT ?_ ?_; focus (simp -implicitDefEqProofs [ha, hlt, hw, hia, he] <;> fail)) | (refine Wp.condF ?_ ?_; focus (simp -implicitDefEqProofs [ha, hlt, hw, hia, he] <;> fail)) | refine Wp.reg (by simp -implicitDefEqProofs [ha, hlt, hw, hia, he]; exact ⟨rfl, rfl⟩) ?_ | refine Wp.regA (by simp -implicitDefEqProofs [ha, hlt, hw, hia, he]; exact ⟨rfl, rfl⟩) (by rfl) ?_))
      (apply endK_r; (focus (simp -implicitDefEqProofs [Tryz.f100]; try rfl)); (focus (intro g; simp -implicitDefEqProofs [Tryz.f100])); exact ⟨_, rfl⟩)
  simp at hl
  subst hl
  have hcomb := hcomb0 ss hss
  rw [hcomb] at hx0
  clear ih ihc hfail hcomb0 hsm hcan h69 h8 hcomb
  subst hK
  cases t with
  | var i => simp [Tm.two] at h2
  | lam s b => simp [Tm.two] at h2
  | zero =>
    simp [combT, resT, resE, Ty.raw] at hx0
    subst hx0
    simp [Tm.raw, Tm.kids]
    (repeat (first | refine Wp.seq ?_ | refine Wp.block ?_ | refine Wp.skip ?_ | refine Wp.exit ?_ | refine Wp.ret ?_ | refine thenK_n ?_ | refine thenK_r ?_ | refine thenK_e ?_ | refine blockK_n ?_ | refine blockK_r ?_ | refine blockK_e ?_ | refine blockK_o (by decide) ?_ | (refine Wp.condT ?_ ?_; focus (simp -implicitDefEqProofs [nat1_c, list1_c] <;> fail)) | (refine Wp.condF ?_ ?_; focus (simp -implicitDefEqProofs [nat1_c, list1_c] <;> fail)) | refine Wp.reg (by simp -implicitDefEqProofs [nat1_c, list1_c]; exact ⟨rfl, rfl⟩) ?_ | refine Wp.regA (by simp -implicitDefEqProofs [nat1_c, list1_c]; exact ⟨rfl, rfl⟩) (by rfl) ?_))
    (apply endK_r; (focus (simp -implicitDefEqProofs [Tryz.f100]; try rfl)); (focus (intro g; simp -implicitDefEqProofs [Tryz.f100])); exact ⟨_, rfl⟩)
  | nil =>
    simp [combT, resT, resE, Ty.raw] at hx0
    subst hx0
    simp [Tm.raw, Tm.kids]
    (repeat (first | refine Wp.seq ?_ | refine Wp.block ?_ | refine Wp.skip ?_ | refine Wp.exit ?_ | refine Wp.ret ?_ | refine thenK_n ?_ | refine thenK_r ?_ | refine thenK_e ?_ | refine blockK_n ?_ | refine blockK_r ?_ | refine blockK_e ?_ | refine blockK_o (by decide) ?_ | (refine Wp.condT ?_ ?_; focus (simp -implicitDefEqProofs [nat1_c, list1_c] <;> fail)) | (refine Wp.condF ?_ ?_; focus (simp -implicitDefEqProofs [nat1_c, list1_c] <;> fail)) | refine Wp.reg (by simp -implicitDefEqProofs [nat1_c, list1_c]; exact ⟨rfl, rfl⟩) ?_ | refine Wp.regA (by simp -implicitDefEqProofs [nat1_c, list1_c]; exact ⟨rfl, rfl⟩) (by rfl) ?_))
    (apply endK_r; (focus (simp -implicitDefEqProofs [Tryz.f100]; try rfl)); (focus (intro g; simp -implicitDefEqProofs [Tryz.f100])); exact ⟨_, rfl⟩)
  | unit =>
    simp [combT, resT, resE, Ty.raw] at hx0
    subst hx0
    simp [Tm.raw, Tm.kids]
    (repeat (first | refine Wp.seq ?_ | refine Wp.block ?_ | refine Wp.skip ?_ | refine Wp.exit ?_ | refine Wp.ret ?_ | refine thenK_n ?_ | refine thenK_r ?_ | refine thenK_e ?_ | refine blockK_n ?_ | refine blockK_r ?_ | refine blockK_e ?_ | refine blockK_o (by decide) ?_ | (refine Wp.condT ?_ ?_; focus (simp -implicitDefEqProofs [nat1_c, list1_c, unit1_c] <;> fail)) | (refine Wp.condF ?_ ?_; focus (simp -implicitDefEqProofs [nat1_c, list1_c, unit1_c] <;> fail)) | refine Wp.reg (by simp -implicitDefEqProofs [nat1_c, list1_c, unit1_c]; exact ⟨rfl, rfl⟩) ?_ | refine Wp.regA (by simp -implicitDefEqProofs [nat1_c, list1_c, unit1_c]; exact ⟨rfl, rfl⟩) (by rfl) ?_))
    (apply endK_r; (focus (simp -implicitDefEqProofs [Tryz.f100]; try rfl)); (focus (intro g; simp -implicitDefEqProofs [Tryz.f100])); exact ⟨_, rfl⟩)
  | succ a =>
    rcases ss with _ | ⟨x, _ | ⟨y, ss⟩⟩ <;> simp [Tm.kids] at hdl
    have hx := hsz x (by simp)
    have c1 := sameTy_c (E := E) (s := x) (u := .nat) (by omega)
    simp [Ty.raw] at c1
    by_cases h : x = .nat
    · simp [combT, h, resT, resE, Ty.raw] at hx0 c1
      subst hx0
      simp [Tm.raw, Tm.kids, h, Ty.raw]
      (repeat (first | refine Wp.seq ?_ | refine Wp.block ?_ | refine Wp.skip ?_ | refine Wp.exit ?_ | refine Wp.ret ?_ | refine thenK_n ?_ | refine thenK_r ?_ | refine thenK_e ?_ | refine blockK_n ?_ | refine blockK_r ?_ | refine blockK_e ?_ | refine blockK_o (by decide) ?_ | (refine Wp.condT ?_ ?_; focus (simp -implicitDefEqProofs [nat1_c, list1_c, c1] <;> fail)) | (refine Wp.condF ?_ ?_; focus (simp -implicitDefEqProofs [nat1_c, list1_c, c1] <;> fail)) | refine Wp.reg (by simp -implicitDefEqProofs [nat1_c, list1_c, c1]; exact ⟨rfl, rfl⟩) ?_ | refine Wp.regA (by simp -implicitDefEqProofs [nat1_c, list1_c, c1]; exact ⟨rfl, rfl⟩) (by rfl) ?_))
      (apply endK_r; (focus (simp -implicitDefEqProofs [Tryz.f100]; try rfl)); (focus (intro g; simp -implicitDefEqProofs [Tryz.f100])); exact ⟨_, rfl⟩)
    · simp [combT, h, resT, resE, Ty.raw] at hx0 c1
      subst hx0
      simp [Tm.raw, Tm.kids]
      (repeat (first | refine Wp.seq ?_ | refine Wp.block ?_ | refine Wp.skip ?_ | refine Wp.exit ?_ | refine Wp.ret ?_ | refine thenK_n ?_ | refine thenK_r ?_ | refine thenK_e ?_ | refine blockK_n ?_ | refine blockK_r ?_ | refine blockK_e ?_ | refine blockK_o (by decide) ?_ | (refine Wp.condT ?_ ?_; focus (simp -implicitDefEqProofs [nat1_c, list1_c, c1] <;> fail)) | (refine Wp.condF ?_ ?_; focus (simp -implicitDefEqProofs [nat1_c, list1_c, c1] <;> fail)) | refine Wp.reg (by simp -implicitDefEqProofs [nat1_c, list1_c, c1]; exact ⟨rfl, rfl⟩) ?_ | refine Wp.regA (by simp -implicitDefEqProofs [nat1_c, list1_c, c1]; exact ⟨rfl, rfl⟩) (by rfl) ?_))
      (apply endK_r; (focus (simp -implicitDefEqProofs [Tryz.f100]; try rfl)); (focus (intro g; simp -implicitDefEqProofs [Tryz.f100])); exact ⟨_, rfl⟩)
  | app f a =>
    rcases ss with _ | ⟨x, _ | ⟨y, _ | ⟨z, ss⟩⟩⟩ <;> simp [Tm.kids] at hdl
    have hx := hsz x (by simp)
    cases x with
    | fn s u =>
      simp only [Ty.size] at hx
      have c1 := sameTy_c (E := E) (s := s) (u := y) (by omega)
      by_cases h : s = y
      · simp [combT, h, resT, resE, Ty.raw] at hx0 c1
        subst hx0
        simp [Tm.raw, Tm.kids, h, Ty.raw]
        (repeat (first | refine Wp.seq ?_ | refine Wp.block ?_ | refine Wp.skip ?_ | refine Wp.exit ?_ | refine Wp.ret ?_ | refine thenK_n ?_ | refine thenK_r ?_ | refine thenK_e ?_ | refine blockK_n ?_ | refine blockK_r ?_ | refine blockK_e ?_ | refine blockK_o (by decide) ?_ | (refine Wp.condT ?_ ?_; focus (simp -implicitDefEqProofs [nat1_c, list1_c, c1] <;> fail)) | (refine Wp.condF ?_ ?_; focus (simp -implicitDefEqProofs [nat1_c, list1_c, c1] <;> fail)) | refine Wp.reg (by simp -implicitDefEqProofs [nat1_c, list1_c, c1]; exact ⟨rfl, rfl⟩) ?_ | refine Wp.regA (by simp -implicitDefEqProofs [nat1_c, list1_c, c1]; exact ⟨rfl, rfl⟩) (by rfl) ?_))
        (apply endK_r; (focus (simp -implicitDefEqProofs [Tryz.f100]; try rfl)); (focus (intro g; simp -implicitDefEqProofs [Tryz.f100])); exact ⟨_, rfl⟩)
      · simp [combT, h, resT, resE, Ty.raw] at hx0 c1
        subst hx0
        simp [Tm.raw, Tm.kids, Ty.raw]
        (repeat (first | refine Wp.seq ?_ | refine Wp.block ?_ | refine Wp.skip ?_ | refine Wp.exit ?_ | refine Wp.ret ?_ | refine thenK_n ?_ | refine thenK_r ?_ | refine thenK_e ?_ | refine blockK_n ?_ | refine blockK_r ?_ | refine blockK_e ?_ | refine blockK_o (by decide) ?_ | (refine Wp.condT ?_ ?_; focus (simp -implicitDefEqProofs [nat1_c, list1_c, c1] <;> fail)) | (refine Wp.condF ?_ ?_; focus (simp -implicitDefEqProofs [nat1_c, list1_c, c1] <;> fail)) | refine Wp.reg (by simp -implicitDefEqProofs [nat1_c, list1_c, c1]; exact ⟨rfl, rfl⟩) ?_ | refine Wp.regA (by simp -implicitDefEqProofs [nat1_c, list1_c, c1]; exact ⟨rfl, rfl⟩) (by rfl) ?_))
        (apply endK_r; (focus (simp -implicitDefEqProofs [Tryz.f100]; try rfl)); (focus (intro g; simp -implicitDefEqProofs [Tryz.f100])); exact ⟨_, rfl⟩)
    | _ =>
      simp [combT, resT, resE, Ty.raw] at hx0
      subst hx0
      simp [Tm.raw, Tm.kids, Ty.raw]
      (repeat (first | refine Wp.seq ?_ | refine Wp.block ?_ | refine Wp.skip ?_ | refine Wp.exit ?_ | refine Wp.ret ?_ | refine thenK_n ?_ | refine thenK_r ?_ | refine thenK_e ?_ | refine blockK_n ?_ | refine blockK_r ?_ | refine blockK_e ?_ | refine blockK_o (by decide) ?_ | (refine Wp.condT ?_ ?_; focus (simp -implicitDefEqProofs [nat1_c, list1_c] <;> fail)) | (refine Wp.condF ?_ ?_; focus (simp -implicitDefEqProofs [nat1_c, list1_c] <;> fail)) | refine Wp.reg (by simp -implicitDefEqProofs [nat1_c, list1_c]; exact ⟨rfl, rfl⟩) ?_ | refine Wp.regA (by simp -implicitDefEqProofs [nat1_c, list1_c]; exact ⟨rfl, rfl⟩) (by rfl) ?_))
      (apply endK_r; (focus (simp -implicitDefEqProofs [Tryz.f100]; try rfl)); (focus (intro g; simp -implicitDefEqProofs [Tryz.f100])); exact ⟨_, rfl⟩)
  | cons f a =>
    rcases ss with _ | ⟨x, _ | ⟨y, _ | ⟨z, ss⟩⟩⟩ <;> simp [Tm.kids] at hdl
    have hx := hsz x (by simp)
    have hy := hsz y (by simp)
    have c1 := sameTy_c (E := E) (s := x) (u := .nat) (by omega)
    have c2 := sameTy_c (E := E) (s := y) (u := .list) (by omega)
    simp [Ty.raw] at c1 c2
    by_cases h : x = .nat
    · by_cases h' : y = .list
      · simp [combT, h, h', resT, resE, Ty.raw] at hx0 c1 c2
        subst hx0
        simp [Tm.raw, Tm.kids, h, h', Ty.raw]
        (repeat (first | refine Wp.seq ?_ | refine Wp.block ?_ | refine Wp.skip ?_ | refine Wp.exit ?_ | refine Wp.ret ?_ | refine thenK_n ?_ | refine thenK_r ?_ | refine thenK_e ?_ | refine blockK_n ?_ | refine blockK_r ?_ | refine blockK_e ?_ | refine blockK_o (by decide) ?_ | (refine Wp.condT ?_ ?_; focus (simp -implicitDefEqProofs [nat1_c, list1_c, c1, c2] <;> fail)) | (refine Wp.condF ?_ ?_; focus (simp -implicitDefEqProofs [nat1_c, list1_c, c1, c2] <;> fail)) | refine Wp.reg (by simp -implicitDefEqProofs [nat1_c, list1_c, c1, c2]; exact ⟨rfl, rfl⟩) ?_ | refine Wp.regA (by simp -implicitDefEqProofs [nat1_c, list1_c, c1, c2]; exact ⟨rfl, rfl⟩) (by rfl) ?_))
        (apply endK_r; (focus (simp -implicitDefEqProofs [Tryz.f100]; try rfl)); (focus (intro g; simp -implicitDefEqProofs [Tryz.f100])); exact ⟨_, rfl⟩)
      · simp [combT, h, h', resT, resE, Ty.raw] at hx0 c1 c2
        subst hx0
        simp [Tm.raw, Tm.kids, h, Ty.raw]
        (repeat (first | refine Wp.seq ?_ | refine Wp.block ?_ | refine Wp.skip ?_ | refine Wp.exit ?_ | refine Wp.ret ?_ | refine thenK_n ?_ | refine thenK_r ?_ | refine thenK_e ?_ | refine blockK_n ?_ | refine blockK_r ?_ | refine blockK_e ?_ | refine blockK_o (by decide) ?_ | (refine Wp.condT ?_ ?_; focus (simp -implicitDefEqProofs [nat1_c, list1_c, c1, c2] <;> fail)) | (refine Wp.condF ?_ ?_; focus (simp -implicitDefEqProofs [nat1_c, list1_c, c1, c2] <;> fail)) | refine Wp.reg (by simp -implicitDefEqProofs [nat1_c, list1_c, c1, c2]; exact ⟨rfl, rfl⟩) ?_ | refine Wp.regA (by simp -implicitDefEqProofs [nat1_c, list1_c, c1, c2]; exact ⟨rfl, rfl⟩) (by rfl) ?_))
        (apply endK_r; (focus (simp -implicitDefEqProofs [Tryz.f100]; try rfl)); (focus (intro g; simp -implicitDefEqProofs [Tryz.f100])); exact ⟨_, rfl⟩)
    · simp [combT, h, resT, resE, Ty.raw] at hx0 c1 c2
      subst hx0
      simp [Tm.raw, Tm.kids]
      (repeat (first | refine Wp.seq ?_ | refine Wp.block ?_ | refine Wp.skip ?_ | refine Wp.exit ?_ | refine Wp.ret ?_ | refine thenK_n ?_ | refine thenK_r ?_ | refine thenK_e ?_ | refine blockK_n ?_ | refine blockK_r ?_ | refine blockK_e ?_ | refine blockK_o (by decide) ?_ | (refine Wp.condT ?_ ?_; focus (simp -implicitDefEqProofs [nat1_c, list1_c, c1, c2] <;> fail)) | (refine Wp.condF ?_ ?_; focus (simp -implicitDefEqProofs [nat1_c, list1_c, c1, c2] <;> fail)) | refine Wp.reg (by simp -implicitDefEqProofs [nat1_c, list1_c, c1, c2]; exact ⟨rfl, rfl⟩) ?_ | refine Wp.regA (by simp -implicitDefEqProofs [nat1_c, list1_c, c1, c2]; exact ⟨rfl, rfl⟩) (by rfl) ?_))
      (apply endK_r; (focus (simp -implicitDefEqProofs [Tryz.f100]; try rfl)); (focus (intro g; simp -implicitDefEqProofs [Tryz.f100])); exact ⟨_, rfl⟩)
  | pair f a =>
    rcases ss with _ | ⟨x, _ | ⟨y, _ | ⟨z, ss⟩⟩⟩ <;> simp [Tm.kids] at hdl
    have hx := hsz x (by simp)
    have hy := hsz y (by simp)
    have c2 := two1_c (E := E) (k := x.raw.k) (ts := x.raw.as) (m := y.raw.k) (us := y.raw.as) (by simp [Ty.raw_nodes]; omega) (by simp [Ty.raw_nodes]; omega)
    have c3 := ok2_c (E := E) (s := .pair x y) (by simp only [Ty.size]; omega)
    simp only [combT] at hx0
    obtain ⟨z, hz⟩ : ∃ z, fit (.pair x y) = z := ⟨_, rfl⟩
    rw [hz] at hx0 c3
    simp [Ty.raw] at hx0 c2 c3
    subst hx0
    simp [Tm.raw, Tm.kids]
    (repeat (first | refine Wp.seq ?_ | refine Wp.block ?_ | refine Wp.skip ?_ | refine Wp.exit ?_ | refine Wp.ret ?_ | refine thenK_n ?_ | refine thenK_r ?_ | refine thenK_e ?_ | refine blockK_n ?_ | refine blockK_r ?_ | refine blockK_e ?_ | refine blockK_o (by decide) ?_ | (refine Wp.condT ?_ ?_; focus (simp -implicitDefEqProofs [nat1_c, list1_c, c2, c3] <;> fail)) | (refine Wp.condF ?_ ?_; focus (simp -implicitDefEqProofs [nat1_c, list1_c, c2, c3] <;> fail)) | refine Wp.reg (by simp -implicitDefEqProofs [nat1_c, list1_c, c2, c3]; exact ⟨rfl, rfl⟩) ?_ | refine Wp.regA (by simp -implicitDefEqProofs [nat1_c, list1_c, c2, c3]; exact ⟨rfl, rfl⟩) (by rfl) ?_))
    (apply endK_r; (focus (simp -implicitDefEqProofs [Tryz.f100]; try rfl)); (focus (intro g; simp -implicitDefEqProofs [Tryz.f100])); exact ⟨_, rfl⟩)
  | fst a =>
    rcases ss with _ | ⟨x, _ | ⟨y, ss⟩⟩ <;> simp [Tm.kids] at hdl
    cases x with
    | _ =>
      simp [combT, resT, resE, Ty.raw] at hx0
      subst hx0
      simp [Tm.raw, Tm.kids, Ty.raw]
      (repeat (first | refine Wp.seq ?_ | refine Wp.block ?_ | refine Wp.skip ?_ | refine Wp.exit ?_ | refine Wp.ret ?_ | refine thenK_n ?_ | refine thenK_r ?_ | refine thenK_e ?_ | refine blockK_n ?_ | refine blockK_r ?_ | refine blockK_e ?_ | refine blockK_o (by decide) ?_ | (refine Wp.condT ?_ ?_; focus (simp -implicitDefEqProofs [nat1_c, list1_c] <;> fail)) | (refine Wp.condF ?_ ?_; focus (simp -implicitDefEqProofs [nat1_c, list1_c] <;> fail)) | refine Wp.reg (by simp -implicitDefEqProofs [nat1_c, list1_c]; exact ⟨rfl, rfl⟩) ?_ | refine Wp.regA (by simp -implicitDefEqProofs [nat1_c, list1_c]; exact ⟨rfl, rfl⟩) (by rfl) ?_))
      (apply endK_r; (focus (simp -implicitDefEqProofs [Tryz.f100]; try rfl)); (focus (intro g; simp -implicitDefEqProofs [Tryz.f100])); exact ⟨_, rfl⟩)
  | snd a =>
    rcases ss with _ | ⟨x, _ | ⟨y, ss⟩⟩ <;> simp [Tm.kids] at hdl
    cases x with
    | _ =>
      simp [combT, resT, resE, Ty.raw] at hx0
      subst hx0
      simp [Tm.raw, Tm.kids, Ty.raw]
      (repeat (first | refine Wp.seq ?_ | refine Wp.block ?_ | refine Wp.skip ?_ | refine Wp.exit ?_ | refine Wp.ret ?_ | refine thenK_n ?_ | refine thenK_r ?_ | refine thenK_e ?_ | refine blockK_n ?_ | refine blockK_r ?_ | refine blockK_e ?_ | refine blockK_o (by decide) ?_ | (refine Wp.condT ?_ ?_; focus (simp -implicitDefEqProofs [nat1_c, list1_c] <;> fail)) | (refine Wp.condF ?_ ?_; focus (simp -implicitDefEqProofs [nat1_c, list1_c] <;> fail)) | refine Wp.reg (by simp -implicitDefEqProofs [nat1_c, list1_c]; exact ⟨rfl, rfl⟩) ?_ | refine Wp.regA (by simp -implicitDefEqProofs [nat1_c, list1_c]; exact ⟨rfl, rfl⟩) (by rfl) ?_))
      (apply endK_r; (focus (simp -implicitDefEqProofs [Tryz.f100]; try rfl)); (focus (intro g; simp -implicitDefEqProofs [Tryz.f100])); exact ⟨_, rfl⟩)
  | recn s b f n1 =>
    rcases ss with _ | ⟨x, _ | ⟨y, _ | ⟨z, _ | ⟨z', ss⟩⟩⟩⟩ <;> simp [Tm.kids] at hdl
    have hx := hsz x (by simp)
    have hy := hsz y (by simp)
    have hz := hsz z (by simp)
    have hty := Tm.small_ty hs
    simp only [Tm.tyN] at hty
    have c1 := sameTy_c (E := E) (s := x) (u := s) (by omega)
    have c2 := sameTy_c (E := E) (s := y) (u := .fn .nat (.fn s s)) (by omega)
    have c3 := sameTy_c (E := E) (s := z) (u := .nat) (by omega)
    have f1 := fun1_c (E := E) (k := s.raw.k) (ts := s.raw.as) (m := s.raw.k) (us := s.raw.as) (by simp [Ty.raw_nodes]; omega) (by simp [Ty.raw_nodes]; omega)
    have f2 := fun1_c (E := E) (k := 1) (ts := []) (m := 4) (us := [s.raw, s.raw]) (by simp [RT.nodes_mk]) (by simp [RT.nodes_mk, Ty.raw_nodes]; omega)
    have cp := copy_c (E := E) (k := s.raw.k) (ts := s.raw.as) (by simp [Ty.raw_nodes]; omega)
    simp [Ty.raw] at c2 c3 f1 f2 cp
    by_cases h : x = s
    rotate_left
    · simp [combT, h, resT, resE, Ty.raw] at hx0 c1
      subst hx0
      simp [Tm.raw, Tm.kids]
      (repeat (first | refine Wp.seq ?_ | refine Wp.block ?_ | refine Wp.skip ?_ | refine Wp.exit ?_ | refine Wp.ret ?_ | refine thenK_n ?_ | refine thenK_r ?_ | refine thenK_e ?_ | refine blockK_n ?_ | refine blockK_r ?_ | refine blockK_e ?_ | refine blockK_o (by decide) ?_ | (refine Wp.condT ?_ ?_; focus (simp -implicitDefEqProofs [nat1_c, list1_c, c1] <;> fail)) | (refine Wp.condF ?_ ?_; focus (simp -implicitDefEqProofs [nat1_c, list1_c, c1] <;> fail)) | refine Wp.reg (by simp -implicitDefEqProofs [nat1_c, list1_c, c1]; exact ⟨rfl, rfl⟩) ?_ | refine Wp.regA (by simp -implicitDefEqProofs [nat1_c, list1_c, c1]; exact ⟨rfl, rfl⟩) (by rfl) ?_))
      (apply endK_r; (focus (simp -implicitDefEqProofs [Tryz.f100]; try rfl)); (focus (intro g; simp -implicitDefEqProofs [Tryz.f100])); exact ⟨_, rfl⟩)
    by_cases h' : y = .fn .nat (.fn s s)
    rotate_left
    · simp [combT, h, h', resT, resE, Ty.raw] at hx0 c1 c2
      subst hx0
      simp [Tm.raw, Tm.kids, h]
      (repeat (first | refine Wp.seq ?_ | refine Wp.block ?_ | refine Wp.skip ?_ | refine Wp.exit ?_ | refine Wp.ret ?_ | refine thenK_n ?_ | refine thenK_r ?_ | refine thenK_e ?_ | refine blockK_n ?_ | refine blockK_r ?_ | refine blockK_e ?_ | refine blockK_o (by decide) ?_ | (refine Wp.condT ?_ ?_; focus (simp -implicitDefEqProofs [nat1_c, list1_c, c1, c2, f1, f2] <;> fail)) | (refine Wp.condF ?_ ?_; focus (simp -implicitDefEqProofs [nat1_c, list1_c, c1, c2, f1, f2] <;> fail)) | refine Wp.reg (by simp -implicitDefEqProofs [nat1_c, list1_c, c1, c2, f1, f2]; exact ⟨rfl, rfl⟩) ?_ | refine Wp.regA (by simp -implicitDefEqProofs [nat1_c, list1_c, c1, c2, f1, f2]; exact ⟨rfl, rfl⟩) (by rfl) ?_))
      (apply endK_r; (focus (simp -implicitDefEqProofs [Tryz.f100]; try rfl)); (focus (intro g; simp -implicitDefEqProofs [Tryz.f100])); exact ⟨_, rfl⟩)
    by_cases h'' : z = .nat
    rotate_left
    · simp [combT, h, h', h'', resT, resE, Ty.raw] at hx0 c1 c2 c3
      subst hx0
      simp [Tm.raw, Tm.kids, h, h', Ty.raw]
      (repeat (first | refine Wp.seq ?_ | refine Wp.block ?_ | refine Wp.skip ?_ | refine Wp.exit ?_ | refine Wp.ret ?_ | refine thenK_n ?_ | refine thenK_r ?_ | refine thenK_e ?_ | refine blockK_n ?_ | refine blockK_r ?_ | refine blockK_e ?_ | refine blockK_o (by decide) ?_ | (refine Wp.condT ?_ ?_; focus (simp -implicitDefEqProofs [nat1_c, list1_c, c1, c2, c3, f1, f2] <;> fail)) | (refine Wp.condF ?_ ?_; focus (simp -implicitDefEqProofs [nat1_c, list1_c, c1, c2, c3, f1, f2] <;> fail)) | refine Wp.reg (by simp -implicitDefEqProofs [nat1_c, list1_c, c1, c2, c3, f1, f2]; exact ⟨rfl, rfl⟩) ?_ | refine Wp.regA (by simp -implicitDefEqProofs [nat1_c, list1_c, c1, c2, c3, f1, f2]; exact ⟨rfl, rfl⟩) (by rfl) ?_))
      (apply endK_r; (focus (simp -implicitDefEqProofs [Tryz.f100]; try rfl)); (focus (intro g; simp -implicitDefEqProofs [Tryz.f100])); exact ⟨_, rfl⟩)
    · simp [combT, h, h', h'', resT, resE, Ty.raw] at hx0 c1 c2 c3
      subst hx0
      simp [Tm.raw, Tm.kids, h, h', h'', Ty.raw]
      (repeat (first | refine Wp.seq ?_ | refine Wp.block ?_ | refine Wp.skip ?_ | refine Wp.exit ?_ | refine Wp.ret ?_ | refine thenK_n ?_ | refine thenK_r ?_ | refine thenK_e ?_ | refine blockK_n ?_ | refine blockK_r ?_ | refine blockK_e ?_ | refine blockK_o (by decide) ?_ | (refine Wp.condT ?_ ?_; focus (simp -implicitDefEqProofs [nat1_c, list1_c, c1, c2, c3, f1, f2, cp] <;> fail)) | (refine Wp.condF ?_ ?_; focus (simp -implicitDefEqProofs [nat1_c, list1_c, c1, c2, c3, f1, f2, cp] <;> fail)) | refine Wp.reg (by simp -implicitDefEqProofs [nat1_c, list1_c, c1, c2, c3, f1, f2, cp]; exact ⟨rfl, rfl⟩) ?_ | refine Wp.regA (by simp -implicitDefEqProofs [nat1_c, list1_c, c1, c2, c3, f1, f2, cp]; exact ⟨rfl, rfl⟩) (by rfl) ?_))
      (apply endK_r; (focus (simp -implicitDefEqProofs [Tryz.f100]; try rfl)); (focus (intro g; simp -implicitDefEqProofs [Tryz.f100])); exact ⟨_, rfl⟩)
  | fold s b f n1 =>
    rcases ss with _ | ⟨x, _ | ⟨y, _ | ⟨z, _ | ⟨z', ss⟩⟩⟩⟩ <;> simp [Tm.kids] at hdl
    have hx := hsz x (by simp)
    have hy := hsz y (by simp)
    have hz := hsz z (by simp)
    have hty := Tm.small_ty hs
    simp only [Tm.tyN] at hty
    have c1 := sameTy_c (E := E) (s := x) (u := s) (by omega)
    have c2 := sameTy_c (E := E) (s := y) (u := .fn .nat (.fn .list (.fn s s))) (by omega)
    have c3 := sameTy_c (E := E) (s := z) (u := .list) (by omega)
    have f1 := fun1_c (E := E) (k := s.raw.k) (ts := s.raw.as) (m := s.raw.k) (us := s.raw.as) (by simp [Ty.raw_nodes]; omega) (by simp [Ty.raw_nodes]; omega)
    have f2 := fun1_c (E := E) (k := 2) (ts := []) (m := 4) (us := [s.raw, s.raw]) (by simp [RT.nodes_mk]) (by simp [RT.nodes_mk, Ty.raw_nodes]; omega)
    have f3 := fun1_c (E := E) (k := 1) (ts := []) (m := 4) (us := [.mk 2 [], .mk 4 [s.raw, s.raw]]) (by simp [RT.nodes_mk]) (by simp [RT.nodes_mk, Ty.raw_nodes]; omega)
    have cp := copy_c (E := E) (k := s.raw.k) (ts := s.raw.as) (by simp [Ty.raw_nodes]; omega)
    simp [Ty.raw] at c2 c3 f1 f2 cp f3
    by_cases h : x = s
    rotate_left
    · simp [combT, h, resT, resE, Ty.raw] at hx0 c1
      subst hx0
      simp [Tm.raw, Tm.kids]
      (repeat (first | refine Wp.seq ?_ | refine Wp.block ?_ | refine Wp.skip ?_ | refine Wp.exit ?_ | refine Wp.ret ?_ | refine thenK_n ?_ | refine thenK_r ?_ | refine thenK_e ?_ | refine blockK_n ?_ | refine blockK_r ?_ | refine blockK_e ?_ | refine blockK_o (by decide) ?_ | (refine Wp.condT ?_ ?_; focus (simp -implicitDefEqProofs [nat1_c, list1_c, c1] <;> fail)) | (refine Wp.condF ?_ ?_; focus (simp -implicitDefEqProofs [nat1_c, list1_c, c1] <;> fail)) | refine Wp.reg (by simp -implicitDefEqProofs [nat1_c, list1_c, c1]; exact ⟨rfl, rfl⟩) ?_ | refine Wp.regA (by simp -implicitDefEqProofs [nat1_c, list1_c, c1]; exact ⟨rfl, rfl⟩) (by rfl) ?_))
      (apply endK_r; (focus (simp -implicitDefEqProofs [Tryz.f100]; try rfl)); (focus (intro g; simp -implicitDefEqProofs [Tryz.f100])); exact ⟨_, rfl⟩)
    by_cases h' : y = .fn .nat (.fn .list (.fn s s))
    rotate_left
    · simp [combT, h, h', resT, resE, Ty.raw] at hx0 c1 c2
      subst hx0
      simp [Tm.raw, Tm.kids, h]
      (repeat (first | refine Wp.seq ?_ | refine Wp.block ?_ | refine Wp.skip ?_ | refine Wp.exit ?_ | refine Wp.ret ?_ | refine thenK_n ?_ | refine thenK_r ?_ | refine thenK_e ?_ | refine blockK_n ?_ | refine blockK_r ?_ | refine blockK_e ?_ | refine blockK_o (by decide) ?_ | (refine Wp.condT ?_ ?_; focus (simp -implicitDefEqProofs [nat1_c, list1_c, c1, c2, f1, f2, f3] <;> fail)) | (refine Wp.condF ?_ ?_; focus (simp -implicitDefEqProofs [nat1_c, list1_c, c1, c2, f1, f2, f3] <;> fail)) | refine Wp.reg (by simp -implicitDefEqProofs [nat1_c, list1_c, c1, c2, f1, f2, f3]; exact ⟨rfl, rfl⟩) ?_ | refine Wp.regA (by simp -implicitDefEqProofs [nat1_c, list1_c, c1, c2, f1, f2, f3]; exact ⟨rfl, rfl⟩) (by rfl) ?_))
      (apply endK_r; (focus (simp -implicitDefEqProofs [Tryz.f100]; try rfl)); (focus (intro g; simp -implicitDefEqProofs [Tryz.f100])); exact ⟨_, rfl⟩)
    by_cases h'' : z = .list
    rotate_left
    · simp [combT, h, h', h'', resT, resE, Ty.raw] at hx0 c1 c2 c3
      subst hx0
      simp [Tm.raw, Tm.kids, h, h', Ty.raw]
      (repeat (first | refine Wp.seq ?_ | refine Wp.block ?_ | refine Wp.skip ?_ | refine Wp.exit ?_ | refine Wp.ret ?_ | refine thenK_n ?_ | refine thenK_r ?_ | refine thenK_e ?_ | refine blockK_n ?_ | refine blockK_r ?_ | refine blockK_e ?_ | refine blockK_o (by decide) ?_ | (refine Wp.condT ?_ ?_; focus (simp -implicitDefEqProofs [nat1_c, list1_c, c1, c2, c3, f1, f2, f3] <;> fail)) | (refine Wp.condF ?_ ?_; focus (simp -implicitDefEqProofs [nat1_c, list1_c, c1, c2, c3, f1, f2, f3] <;> fail)) | refine Wp.reg (by simp -implicitDefEqProofs [nat1_c, list1_c, c1, c2, c3, f1, f2, f3]; exact ⟨rfl, rfl⟩) ?_ | refine Wp.regA (by simp -implicitDefEqProofs [nat1_c, list1_c, c1, c2, c3, f1, f2, f3]; exact ⟨rfl, rfl⟩) (by rfl) ?_))
      (apply endK_r; (focus (simp -implicitDefEqProofs [Tryz.f100]; try rfl)); (focus (intro g; simp -implicitDefEqProofs [Tryz.f100])); exact ⟨_, rfl⟩)
    · simp [combT, h, h', h'', resT, resE, Ty.raw] at hx0 c1 c2 c3
      subst hx0
      simp [Tm.raw, Tm.kids, h, h', h'', Ty.raw]
      (repeat (first | refine Wp.seq ?_ | refine Wp.block ?_ | refine Wp.skip ?_ | refine Wp.exit ?_ | refine Wp.ret ?_ | refine thenK_n ?_ | refine thenK_r ?_ | refine thenK_e ?_ | refine blockK_n ?_ | refine blockK_r ?_ | refine blockK_e ?_ | refine blockK_o (by decide) ?_ | (refine Wp.condT ?_ ?_; focus (simp -implicitDefEqProofs [nat1_c, list1_c, c1, c2, c3, f1, f2, f3, cp] <;> fail)) | (refine Wp.condF ?_ ?_; focus (simp -implicitDefEqProofs [nat1_c, list1_c, c1, c2, c3, f1, f2, f3, cp] <;> fail)) | refine Wp.reg (by simp -implicitDefEqProofs [nat1_c, list1_c, c1, c2, c3, f1, f2, f3, cp]; exact ⟨rfl, rfl⟩) ?_ | refine Wp.regA (by simp -implicitDefEqProofs [nat1_c, list1_c, c1, c2, c3, f1, f2, f3, cp]; exact ⟨rfl, rfl⟩) (by rfl) ?_))
      (apply endK_r; (focus (simp -implicitDefEqProofs [Tryz.f100]; try rfl)); (focus (intro g; simp -implicitDefEqProofs [Tryz.f100])); exact ⟨_, rfl⟩)

theorem typed1' (t : Tm) (G : List Ty) (hn : t.size ≤ 4096) (hgl : G.length ≤ 90000) (hs : t.small = true) (hg : ∀ s ∈ G, s.size ≤ 64) :
    den X E 60 [.sl (G.map (RT.cells ∘ Ty.raw)) .dead, t.raw.enc] [] = some (.tup [(resT (tyR G.reverse t)).enc, .int .i64 (resE (tyR G.reverse t))], []) := by
  have c1 := check2_c (E := E) (k := t.raw.k) (i := t.raw.i) (m := t.raw.ty.k) (us := t.raw.ty.as) (ts := t.raw.as) (by have := t.raw_nodes hs; simp; omega)
  have he := t.raw_err hs
  rw [if_pos hn] at he
  simp [he] at c1
  have c2 : ∀ (g : Nat) (S : St) (o1 o2 o3 : Own), callT (X.at g) (den X E) S 100 [.sl (G.map (RT.cells ∘ Ty.raw)) o1, .agg [.int .i64 t.raw.k, .int .i64 t.raw.i, .int .i64 t.raw.ty.k, .sl (List.map RT.cells t.raw.ty.as) o2, .sl (List.map RM.cells t.raw.as) o3]] = some (.tup [.agg [.int .i64 (resT (tyR G.reverse t)).k, .sl (List.map RT.cells (resT (tyR G.reverse t)).as) .dead], .int .i64 (resE (tyR G.reverse t))], S) := by
    intros
    simpa using call_up (cf := X.at _) (fn := Tryz.f100) (args' := [_, _]) (by kernel_rfl) (by simp) (by simp; try rfl) (by simpa using infer1 (E := E) 4096 t G hn (Nat.le_refl _) (by omega) hs hg) _
  refine den_w0 (fn := Tryz.f60) (by rfl) (by rfl) (by kernel_rfl) rfl (by rfl) ?_
  simp -implicitDefEqProofs
  (repeat (first | refine Wp.seq ?_ | refine Wp.block ?_ | refine Wp.skip ?_ | refine Wp.exit ?_ | refine Wp.ret ?_ | refine thenK_n ?_ | refine thenK_r ?_ | refine thenK_e ?_ | refine blockK_n ?_ | refine blockK_r ?_ | refine blockK_e ?_ | refine blockK_o (by decide) ?_ | (refine Wp.condT ?_ ?_; focus (simp -implicitDefEqProofs [c1, c2] <;> fail)) | (refine Wp.condF ?_ ?_; focus (simp -implicitDefEqProofs [c1, c2] <;> fail)) | refine Wp.reg (by simp -implicitDefEqProofs [c1, c2]; exact ⟨rfl, rfl⟩) ?_ | refine Wp.regA (by simp -implicitDefEqProofs [c1, c2]; exact ⟨rfl, rfl⟩) (by rfl) ?_))
  (apply endK_r; (focus (simp -implicitDefEqProofs [Tryz.f60]; try rfl)); (focus (intro g; simp -implicitDefEqProofs [Tryz.f60])); exact ⟨_, rfl⟩)
theorem typeOf2 (t : Tm) (G : List Ty) (hn : t.size ≤ 4096) (hgl : G.length ≤ 16) (hs : t.small = true) (hg : ∀ s ∈ G, s.size ≤ 64) :
    den X E 16 [.sl (G.map (RT.cells ∘ Ty.raw)) .dead, t.raw.enc] [] = some (.tup [(resT (tyR G.reverse t)).enc, .int .i64 (resE (tyR G.reverse t))], []) := by
  have c1 := context1_c (E := E) (g' := G) hgl hg
  have c2 : ∀ (g : Nat) (S : St) (o1 o2 o3 : Own), callT (X.at g) (den X E) S 60 [.sl (G.map (RT.cells ∘ Ty.raw)) o1, .agg [.int .i64 t.raw.k, .int .i64 t.raw.i, .int .i64 t.raw.ty.k, .sl (List.map RT.cells t.raw.ty.as) o2, .sl (List.map RM.cells t.raw.as) o3]] = some (.tup [.agg [.int .i64 (resT (tyR G.reverse t)).k, .sl (List.map RT.cells (resT (tyR G.reverse t)).as) .dead], .int .i64 (resE (tyR G.reverse t))], S) := by
    intros
    simpa using call_up (cf := X.at _) (fn := Tryz.f60) (args' := [_, _]) (by kernel_rfl) (by simp) (by simp; try rfl) (by simpa using typed1' (E := E) t G hn (by omega) hs hg) _
  refine den_w0 (fn := Tryz.f16) (by rfl) (by rfl) (by kernel_rfl) rfl (by rfl) ?_
  simp -implicitDefEqProofs
  (repeat (first | refine Wp.seq ?_ | refine Wp.block ?_ | refine Wp.skip ?_ | refine Wp.exit ?_ | refine Wp.ret ?_ | refine thenK_n ?_ | refine thenK_r ?_ | refine thenK_e ?_ | refine blockK_n ?_ | refine blockK_r ?_ | refine blockK_e ?_ | refine blockK_o (by decide) ?_ | (refine Wp.condT ?_ ?_; focus (simp -implicitDefEqProofs [c1, c2] <;> fail)) | (refine Wp.condF ?_ ?_; focus (simp -implicitDefEqProofs [c1, c2] <;> fail)) | refine Wp.reg (by simp -implicitDefEqProofs [c1, c2]; exact ⟨rfl, rfl⟩) ?_ | refine Wp.regA (by simp -implicitDefEqProofs [c1, c2]; exact ⟨rfl, rfl⟩) (by rfl) ?_))
  (apply endK_r; (focus (simp -implicitDefEqProofs [Tryz.f16]; try rfl)); (focus (intro g; simp -implicitDefEqProofs [Tryz.f16])); exact ⟨_, rfl⟩)
theorem typeOf2_c {t : Tm} {G : List Ty} (hn : t.size ≤ 4096) (hgl : G.length ≤ 16) (hs : t.small = true) (hg : ∀ s ∈ G, s.size ≤ 64) (g : Nat) (S : St) (o1 o2 o3 : Own) : callT (X.at g) (den X E) S 16 [.sl (G.map (RT.cells ∘ Ty.raw)) o1, .agg [.int .i64 t.raw.k, .int .i64 t.raw.i, .int .i64 t.raw.ty.k, .sl (List.map RT.cells t.raw.ty.as) o2, .sl (List.map RM.cells t.raw.as) o3]] = some (.tup [.agg [.int .i64 (resT (tyR G.reverse t)).k, .sl (List.map RT.cells (resT (tyR G.reverse t)).as) .dead], .int .i64 (resE (tyR G.reverse t))], S) := by
  simpa using call_up (cf := X.at g) (fn := Tryz.f16) (args' := [.sl (G.map (RT.cells ∘ Ty.raw)) o1, .agg [.int .i64 t.raw.k, .int .i64 t.raw.i, .int .i64 t.raw.ty.k, .sl (List.map RT.cells t.raw.ty.as) o2, .sl (List.map RM.cells t.raw.as) o3]]) (by kernel_rfl) (by simp) (by simp; try rfl) (typeOf2 t G hn hgl hs hg) S
end M
end Go.Proofs.YthclcchnodjjpaaGreatDoor
