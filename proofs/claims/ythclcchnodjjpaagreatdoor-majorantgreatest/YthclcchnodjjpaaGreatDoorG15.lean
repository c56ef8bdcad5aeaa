/- A part of the proof: MkD. -/
import Derived.Test.YthclcchnodjjpaaGreatDoorG14
import Derived.Test.YthclcchnodjjpaaGreatDoorG12
/- make.Term: terms out of a deck. -/
set_option linter.unusedVariables false
set_option linter.unusedSimpArgs false
set_option maxRecDepth 10000
set_option maxHeartbeats 4000000
namespace Go.Proofs.YthclcchnodjjpaaGreatDoor
namespace M
attribute [local irreducible] Wp thenK blockK endK
variable {E : Oracle}
open T (Ty Tm noTy)
/-- What make.Term makes when it makes no variable at once. -/
def restP (zs : List Int) (d : Nat) (t : Ty) (g : List Ty) (i : Nat) : Tm × Nat := match d with
  | 0 => (match t with
    | .nat => let p := nextP zs i 3; (T.num p.1.toNat, p.2)
    | .list => (.nil, i)
    | .unit => (.unit, i)
    | .pair a b => let x := term0 zs a g i; let y := term0 zs b g x.2; (.pair x.1 y.1, y.2)
    | .fn a b => let x := term0 zs b (g ++ [a]) i; (.lam a x.1, x.2))
  | d + 1 => midP zs (termP zs d) t g i
theorem termP_rest (zs : List Int) (d : Nat) (t : Ty) (g : List Ty) (i : Nat) : termP zs d t g i = withVar zs g t i (restP zs d t g) := by
  cases d with
  | zero => cases t <;> rfl
  | succ d => rfl
theorem term_facts {zs : List Int} {d i j : Nat} {t : Ty} {g : List Ty} {x : Tm} (h : termP zs d t g i = (x, j)) (hd : d ≤ 6) (ht : t.size ≤ 64) (hg : ∀ s ∈ g, s.size ≤ 64) (hi : i ≤ zs.length) : j ≤ zs.length ∧ x.raw.nodes ≤ 20000000 := by
  have h1 := termP_small zs d t g i hi
  rw [h] at h1
  have h2 := h1.2 ht hg
  have h3 := x.raw_nodes h2.1
  have h4 : 3 ^ d ≤ 3 ^ 6 := Nat.pow_le_pow_right (by decide) hd
  have h5 : (3 : Nat) ^ 6 = 729 := rfl
  have h6 := h2.2
  exact ⟨h1.1, by simp only at h6; omega⟩
theorem findFn_none {g : List Ty} {t : Ty} (h : ∀ k < g.length, ∀ a, g.reverse[k]? ≠ some (.fn a t)) : findFn g t = none := by
  unfold findFn
  rw [List.findSome?_eq_none_iff]
  intro k hk
  have hk' := h k (List.mem_range.1 hk)
  cases hx : g.reverse[k]? with
  | none => rfl
  | some s =>
    cases s with
    | fn a b =>
      simp only
      split
      · rename_i hb
        subst hb
        exact absurd hx (hk' a)
      · rfl
    | _ => rfl
theorem range_split {n j : Nat} (h : j < n) : List.range n = List.range j ++ j :: ((List.range (n - (j+1))).map (j + 1 + ·)) := by
  obtain ⟨k, rfl⟩ : ∃ k, n = j + (k + 1) := ⟨n - (j+1), by omega⟩
  rw [List.range_add, List.range_succ_eq_map]
  simp [List.map_map]
  have : j + (k + 1) - (j + 1) = k := by omega
  rw [this]
  apply List.map_congr_left
  intro a _
  simp
  omega
theorem findFn_hit {g : List Ty} {t a : Ty} {j : Nat} (hj : j < g.length) (h : ∀ k < j, ∀ a, g.reverse[k]? ≠ some (.fn a t)) (ha : g.reverse[j]? = some (.fn a t)) : findFn g t = some (j, a) := by
  unfold findFn
  rw [range_split hj, List.findSome?_append, List.findSome?_eq_none_iff.2, List.findSome?_cons, ha]
  · simp
  intro k hk
  have hk' := h k (List.mem_range.1 hk)
  cases hx : g.reverse[k]? with
  | none => rfl
  | some s =>
    cases s with
    | fn a b =>
      simp only
      split
      · rename_i hb
        subst hb
        exact absurd hx (hk' a)
      · rfl
    | _ => rfl
theorem appC (f : RM) (l : List RM) (hb : f.nodes + 2 * l.length + (l.map RM.nodes).sum ≤ 1000000000) (g : Nat) (S : St) (o1 o2 o3 : Own) : callT (X.at g) (den X E) S 54 [.agg [.int .i64 f.k, .int .i64 f.i, .int .i64 f.ty.k, .sl (List.map RT.cells f.ty.as) o1, .sl (List.map RM.cells f.as) o2], .sl (l.map RM.cells) o3] = some (.agg [.int .i64 (f.app l).k, .int .i64 (f.app l).i, .int .i64 (f.app l).ty.k, .sl (List.map RT.cells (f.app l).ty.as) .dead, .sl (List.map RM.cells (f.app l).as) .dead], S) := by
  obtain ⟨k, i, ⟨m, us⟩, ts⟩ := f
  exact app1_c hb g S o1 o2 o3
theorem plus_nodes : T.plus.raw.nodes ≤ 100000 := by decide
theorem sub_nodes : T.sub.raw.nodes ≤ 100000 := by decide
theorem rplus_c  (g : Nat) (S : St)  : callT (X.at g) (den X E) S 55 [] = some (.agg [.int .i64 T.plus.raw.k, .int .i64 T.plus.raw.i, .int .i64 T.plus.raw.ty.k, .sl (List.map RT.cells T.plus.raw.ty.as) .dead, .sl (List.map RM.cells T.plus.raw.as) .dead], S) := by
  simpa using call_up (cf := X.at g) (fn := Tryz.f55) (args' := []) (by kernel_rfl) (by simp) (by simp; try rfl) (r_plus) S
theorem rsub_c  (g : Nat) (S : St)  : callT (X.at g) (den X E) S 56 [] = some (.agg [.int .i64 T.sub.raw.k, .int .i64 T.sub.raw.i, .int .i64 T.sub.raw.ty.k, .sl (List.map RT.cells T.sub.raw.ty.as) .dead, .sl (List.map RM.cells T.sub.raw.as) .dead], S) := by
  simpa using call_up (cf := X.at g) (fn := Tryz.f56) (args' := []) (by kernel_rfl) (by simp) (by simp; try rfl) (r_sub) S
theorem mkTerm (zs : List Int) (hz : zs.length ≤ 1000000) : ∀ (m d : Nat) (t : Ty) (z : Int) (g : List Ty) (i : Nat), d * 100 + t.size ≤ m → z.toNat = d → d ≤ 6 → t.size ≤ z + 1000 → z ≤ 1000 → t.size ≤ 64 → g.length + 70 * d + t.size ≤ 900 → (∀ s ∈ g, s.size ≤ 64) → i ≤ zs.length →
    den X E 14 [.loc 0 0, .sl (g.map (RT.cells ∘ Ty.raw)) .dead, t.raw.enc, .int .i64 z] [deck zs i] = some ((termP zs d t g i).1.raw.enc, [deck zs (termP zs d t g i).2]) := by
  intro m
  induction m with
  | zero => intro d t z g i hm; have := t.size; cases t <;> simp [Ty.size] at hm
  | succ m ih =>
  intro d t z g i hm hzd hd hzt hz1 ht hg hs hi
  have hcall : ∀ (d' : Nat) (t' : Ty) (z' : Int) (g' : List Ty) (i' : Nat), d' * 100 + t'.size < d * 100 + t.size → z'.toNat = d' → t'.size ≤ z' + 1000 → z' ≤ 1000 → t'.size ≤ 64 → g'.length + 70 * d' + t'.size ≤ 900 → (∀ s ∈ g', s.size ≤ 64) → i' ≤ zs.length → d' ≤ 6 →
      ∀ (gg b : Nat) (S : St) (o1 o2 : Own), sd S.σ b = some [.sl (zs.map ic) .dead, .int .i64 i'] → callT (X.at gg) (den X E) S 14 [.loc b 0, .sl (g'.map (RT.cells ∘ Ty.raw)) o1, .agg [.int .i64 t'.raw.k, .sl (List.map RT.cells t'.raw.as) o2], .int .i64 z'] =
        some (.agg [.int .i64 (termP zs d' t' g' i').1.raw.k, .int .i64 (termP zs d' t' g' i').1.raw.i, .int .i64 (termP zs d' t' g' i').1.raw.ty.k, .sl (List.map RT.cells (termP zs d' t' g' i').1.raw.ty.as) .dead, .sl (List.map RM.cells (termP zs d' t' g' i').1.raw.as) .dead], { S with σ := S.σ.set b [.sl (zs.map ic) .dead, .int .i64 (termP zs d' t' g' i').2] }) := by
    intro d' t' z' g' i' h1 h2 h3 h4 h5 h6 h7 h8 h9 gg b S o1 o2 hS
    simpa using call_upD (cf := X.at gg) (fn := Tryz.f14) (args' := [_, _, _]) (by kernel_rfl) rfl (by rfl) (by rfl) (by simp) (by simp; try rfl) (by simp) (by simp) (ih d' t' z' g' i' (by omega) h2 h9 h3 h4 h5 h6 h7 h8) S hS
  clear ih
  have c1 := vars1_c (E := E) (g' := g) (t := t) (by omega) hs
  rw [termP_rest]
  obtain ⟨x0, σ0, hx0, hσ0⟩ : ∃ (x0 : AV) (σ0 : List (List AV)), x0 = RM.enc (withVar zs g t i (restP zs d t g)).1.raw ∧ σ0 = [deck zs (withVar zs g t i (restP zs d t g)).2] := ⟨_, _, rfl, rfl⟩
  rw [← hx0, ← hσ0]
  rw [deck_eq] at hσ0 ⊢
  refine den_w (fn := Tryz.f14) (σ1 := σ0) (by rfl) (by rfl) (by kernel_rfl) rfl (by rfl) (by rw [hσ0]; rfl) (by rw [hσ0]; simp) ?_
  simp
  (refine Wp.seq ?_; first | refine Wp.reg (by simp -implicitDefEqProofs; exact ⟨rfl, rfl⟩) ?_ | refine Wp.regA (by simp -implicitDefEqProofs; exact ⟨rfl, rfl⟩) (by rfl) ?_); refine thenK_n ?_
  (refine Wp.seq ?_; first | refine Wp.reg (by simp -implicitDefEqProofs [c1]; exact ⟨rfl, rfl⟩) ?_ | refine Wp.regA (by simp -implicitDefEqProofs [c1]; exact ⟨rfl, rfl⟩) (by rfl) ?_); refine thenK_n ?_
  refine Wp.seq ?_
  refine Wp.cutF [17, 18, 19, 20, 21, 22, 23, 24, 25, 26, 27, 28, 29, 30, 31, 32, 33, 34, 35] [0] (fun w c tk => ∃ i', c 0 = [.sl (zs.map ic) .dead, .int .i64 (i' : Nat)] ∧ i' ≤ zs.length ∧ tk = [] ∧ withVar zs g t i (restP zs d t g) = restP zs d t g i') ?_ ?_ ?_ ?_
  · rfl
  · rfl
  · have hlen : (varsOf g t).length ≤ g.length := by have := List.length_filter_le (isAt g t) (List.range g.length); simpa [varsOf] using this
    by_cases hv : varsOf g t = []
    · have hr : withVar zs g t i (restP zs d t g) = restP zs d t g i := by unfold withVar; rw [if_pos hv]
      simp [hv]
      (repeat (first | refine Wp.seq ?_ | refine Wp.block ?_ | refine Wp.skip ?_ | refine Wp.exit ?_ | refine Wp.ret ?_ | refine thenK_n ?_ | refine thenK_r ?_ | refine thenK_e ?_ | refine blockK_n ?_ | refine blockK_r ?_ | refine blockK_e ?_ | refine blockK_o (by decide) ?_ | (refine Wp.condT ?_ ?_; focus (simp -implicitDefEqProofs <;> fail)) | (refine Wp.condF ?_ ?_; focus (simp -implicitDefEqProofs <;> fail)) | refine Wp.reg (by simp -implicitDefEqProofs; exact ⟨rfl, rfl⟩) ?_ | refine Wp.regA (by simp -implicitDefEqProofs; exact ⟨rfl, rfl⟩) (by rfl) ?_))
      refine ⟨by simp, ⟨_, by simp -implicitDefEqProofs; rfl⟩, i, by simp, hi, rfl, hr⟩
    have hvp : 0 < (varsOf g t).length := List.length_pos_iff.2 hv
    have hvp' : (0 : Int) < (varsOf g t).length := by omega
    obtain ⟨p, i1, hp⟩ : ∃ p i1, nextP zs i 3 = (p, i1) := ⟨_, _, rfl⟩
    obtain ⟨h0, h3, hi1⟩ := nextP_eq hp (by decide) hi
    have c2 := next_c (E := E) zs i 3 (by decide) (by decide) hi hz
    simp only [hp] at c2
    by_cases hp0 : 0 < p
    · obtain ⟨q, i2, hq⟩ : ∃ q i2, nextP zs i1 (varsOf g t).length = (q, i2) := ⟨_, _, rfl⟩
      obtain ⟨hq0, hq1, hi2⟩ := nextP_eq hq (by omega) hi1
      have c3 := next_c (E := E) zs i1 (varsOf g t).length (by omega) (by omega) hi1 hz
      simp only [hq] at c3
      have hel : el (varsOf g t) q.toNat = some ((varsOf g t).getD q.toNat 0) := by
        have : q.toNat < (varsOf g t).length := by omega
        simp [el, List.getD, this]
      have hr : withVar zs g t i (restP zs d t g) = (.var ((varsOf g t).getD q.toNat 0), i2) := by
        unfold withVar
        rw [if_neg hv]
        simp only [hp, if_pos hp0, hq]
      rw [hr] at hx0 hσ0
      generalize (varsOf g t).getD q.toNat 0 = v at hel hx0
      subst hx0 hσ0
      have c4 := var2_c (E := E) (i := (v : Int))
      (repeat (first | refine Wp.seq ?_ | refine Wp.block ?_ | refine Wp.skip ?_ | refine Wp.exit ?_ | refine Wp.ret ?_ | refine thenK_n ?_ | refine thenK_r ?_ | refine thenK_e ?_ | refine blockK_n ?_ | refine blockK_r ?_ | refine blockK_e ?_ | refine blockK_o (by decide) ?_ | (refine Wp.condT ?_ ?_; focus (simp -implicitDefEqProofs [hvp, hvp', c2, c3, c4, hp0, hel, hq0] <;> fail)) | (refine Wp.condF ?_ ?_; focus (simp -implicitDefEqProofs [hvp, hvp', c2, c3, c4, hp0, hel, hq0] <;> fail)) | refine Wp.reg (by simp -implicitDefEqProofs [hvp, hvp', c2, c3, c4, hp0, hel, hq0]; exact ⟨rfl, rfl⟩) ?_ | refine Wp.regA (by simp -implicitDefEqProofs [hvp, hvp', c2, c3, c4, hp0, hel, hq0]; exact ⟨rfl, rfl⟩) (by rfl) ?_))
      (apply endK_r; (focus (simp -implicitDefEqProofs [Tryz.f14, Tm.raw, noTy]; try rfl)); (focus (intro g; simp -implicitDefEqProofs [Tryz.f14, Tm.raw, noTy])); exact ⟨_, rfl⟩)
    · have hr : withVar zs g t i (restP zs d t g) = restP zs d t g i1 := by
        unfold withVar
        rw [if_neg hv]
        simp only [hp, if_neg hp0]
      (repeat (first | refine Wp.seq ?_ | refine Wp.block ?_ | refine Wp.skip ?_ | refine Wp.exit ?_ | refine Wp.ret ?_ | refine thenK_n ?_ | refine thenK_r ?_ | refine thenK_e ?_ | refine blockK_n ?_ | refine blockK_r ?_ | refine blockK_e ?_ | refine blockK_o (by decide) ?_ | (refine Wp.condT ?_ ?_; focus (simp -implicitDefEqProofs [hvp, hvp', c2, hp0] <;> fail)) | (refine Wp.condF ?_ ?_; focus (simp -implicitDefEqProofs [hvp, hvp', c2, hp0] <;> fail)) | refine Wp.reg (by simp -implicitDefEqProofs [hvp, hvp', c2, hp0]; exact ⟨rfl, rfl⟩) ?_ | refine Wp.regA (by simp -implicitDefEqProofs [hvp, hvp', c2, hp0]; exact ⟨rfl, rfl⟩) (by rfl) ?_))
      refine ⟨by simp, ⟨_, by simp -implicitDefEqProofs; rfl⟩, i1, by simp, hi1, rfl, hr⟩
  rintro w c junk tk r σ ⟨i₀, hc0, hi', rfl, hr2⟩ hr hσ
  simp -implicitDefEqProofs [hc0] at hr hσ
  subst hr hσ
  rw [hr2] at hx0 hσ0
  clear hr2 c1
  cases d with
  | zero =>
    have hz0 : ¬ (0 < z) := by omega
    have hw : IntKind.i64.wrap (z - 1) = z - 1 := IntWalk.i64_in _ (by omega)
    have hcs : ∀ (t' : Ty) (g' : List Ty) (i' : Nat) (x : Tm) (j : Nat), term0 zs t' g' i' = (x, j) → t'.size + 1 ≤ t.size → g'.length ≤ g.length + 1 → (∀ s ∈ g', s.size ≤ 64) → i' ≤ zs.length →
        (j ≤ zs.length ∧ x.raw.nodes ≤ 20000000) ∧ ∀ (gg b : Nat) (S : St) (o1 o2 : Own), sd S.σ b = some [.sl (zs.map ic) .dead, .int .i64 i'] → callT (X.at gg) (den X E) S 14 [.loc b 0, .sl (g'.map (RT.cells ∘ Ty.raw)) o1, .agg [.int .i64 t'.raw.k, .sl (List.map RT.cells t'.raw.as) o2], .int .i64 (z - 1)] =
          some (.agg [.int .i64 x.raw.k, .int .i64 x.raw.i, .int .i64 x.raw.ty.k, .sl (List.map RT.cells x.raw.ty.as) .dead, .sl (List.map RM.cells x.raw.as) .dead], { S with σ := S.σ.set b [.sl (zs.map ic) .dead, .int .i64 j] }) := by
      intro t' g' i' x j hx ht' hgl hgs hi1
      refine ⟨term_facts (d := 0) hx (by omega) (by omega) hgs hi1, fun gg b S o1 o2 hS => ?_⟩
      have := hcall 0 t' (z - 1) g' i' (by omega) (by omega) (by omega) (by omega) (by omega) (by omega) hgs hi1 (by omega) gg b S o1 o2 hS
      simp only [termP, hx] at this
      exact this
    have hg3 : ∀ (l : List Ty), (∀ s ∈ l, s.size ≤ 64) → ∀ s ∈ g ++ l, s.size ≤ 64 := fun l hl s hs' => by
      rcases List.mem_append.1 hs' with h | h
      · exact hs s h
      · exact hl s h
    cases t with
    | nat =>
      obtain ⟨q, i5, hq⟩ : ∃ q i5, nextP zs i₀ 3 = (q, i5) := ⟨_, _, rfl⟩
      obtain ⟨hq0, hq3, hi5⟩ := nextP_eq hq (by decide) hi'
      obtain ⟨q, rfl⟩ : ∃ k : Nat, q = k := ⟨q.toNat, by omega⟩
      have c7 := next_c (E := E) zs i₀ 3 (by decide) (by decide) hi' hz
      simp only [hq] at c7
      have c8 := mkNum_c (E := E) (q := q) (by omega)
      simp [restP, hq] at hx0 hσ0
      subst hx0 hσ0
      (repeat (first | refine Wp.seq ?_ | refine Wp.block ?_ | refine Wp.skip ?_ | refine Wp.exit ?_ | refine Wp.ret ?_ | refine thenK_n ?_ | refine thenK_r ?_ | refine thenK_e ?_ | refine blockK_n ?_ | refine blockK_r ?_ | refine blockK_e ?_ | refine blockK_o (by decide) ?_ | (refine Wp.condT ?_ ?_; focus (simp -implicitDefEqProofs [hz0, c7, c8, Ty.raw] <;> fail)) | (refine Wp.condF ?_ ?_; focus (simp -implicitDefEqProofs [hz0, c7, c8, Ty.raw] <;> fail)) | refine Wp.reg (by simp -implicitDefEqProofs [hz0, c7, c8, Ty.raw]; exact ⟨rfl, rfl⟩) ?_ | refine Wp.regA (by simp -implicitDefEqProofs [hz0, c7, c8, Ty.raw]; exact ⟨rfl, rfl⟩) (by rfl) ?_))
      (apply endK_r; (focus (simp -implicitDefEqProofs [Tryz.f14, Tm.raw, noTy]; try rfl)); (focus (intro g; simp -implicitDefEqProofs [Tryz.f14, Tm.raw, noTy])); exact ⟨_, rfl⟩)
    | list =>
      have c5 := node2_c (E := E) (k := 7) (l := []) (by simp) (by simp)
      simp at c5
      simp [restP] at hx0 hσ0
      subst hx0 hσ0
      (repeat (first | refine Wp.seq ?_ | refine Wp.block ?_ | refine Wp.skip ?_ | refine Wp.exit ?_ | refine Wp.ret ?_ | refine thenK_n ?_ | refine thenK_r ?_ | refine thenK_e ?_ | refine blockK_n ?_ | refine blockK_r ?_ | refine blockK_e ?_ | refine blockK_o (by decide) ?_ | (refine Wp.condT ?_ ?_; focus (simp -implicitDefEqProofs [hz0, c5, Ty.raw] <;> fail)) | (refine Wp.condF ?_ ?_; focus (simp -implicitDefEqProofs [hz0, c5, Ty.raw] <;> fail)) | refine Wp.reg (by simp -implicitDefEqProofs [hz0, c5, Ty.raw]; exact ⟨rfl, rfl⟩) ?_ | refine Wp.regA (by simp -implicitDefEqProofs [hz0, c5, Ty.raw]; exact ⟨rfl, rfl⟩) (by rfl) ?_))
      (apply endK_r; (focus (simp -implicitDefEqProofs [Tryz.f14, Tm.raw, noTy]; try rfl)); (focus (intro g; simp -implicitDefEqProofs [Tryz.f14, Tm.raw, noTy])); exact ⟨_, rfl⟩)
    | unit =>
      have c5 := node2_c (E := E) (k := 13) (l := []) (by simp) (by simp)
      simp at c5
      simp [restP] at hx0 hσ0
      subst hx0 hσ0
      (repeat (first | refine Wp.seq ?_ | refine Wp.block ?_ | refine Wp.skip ?_ | refine Wp.exit ?_ | refine Wp.ret ?_ | refine thenK_n ?_ | refine thenK_r ?_ | refine thenK_e ?_ | refine blockK_n ?_ | refine blockK_r ?_ | refine blockK_e ?_ | refine blockK_o (by decide) ?_ | (refine Wp.condT ?_ ?_; focus (simp -implicitDefEqProofs [hz0, c5, Ty.raw] <;> fail)) | (refine Wp.condF ?_ ?_; focus (simp -implicitDefEqProofs [hz0, c5, Ty.raw] <;> fail)) | refine Wp.reg (by simp -implicitDefEqProofs [hz0, c5, Ty.raw]; exact ⟨rfl, rfl⟩) ?_ | refine Wp.regA (by simp -implicitDefEqProofs [hz0, c5, Ty.raw]; exact ⟨rfl, rfl⟩) (by rfl) ?_))
      (apply endK_r; (focus (simp -implicitDefEqProofs [Tryz.f14, Tm.raw, noTy]; try rfl)); (focus (intro g; simp -implicitDefEqProofs [Tryz.f14, Tm.raw, noTy])); exact ⟨_, rfl⟩)
    | pair a b =>
      simp only [Ty.size] at ht
      obtain ⟨x, i3, hx⟩ : ∃ x i3, term0 zs a g i₀ = (x, i3) := ⟨_, _, rfl⟩
      obtain ⟨y, i4, hy⟩ : ∃ y i4, term0 zs b g i3 = (y, i4) := ⟨_, _, rfl⟩
      obtain ⟨⟨hi3, hxn⟩, cx⟩ := hcs a g i₀ x i3 hx (by simp only [Ty.size]; omega) (by omega) hs hi'
      obtain ⟨⟨hi4, hyn⟩, cy⟩ := hcs b g i3 y i4 hy (by simp only [Ty.size]; omega) (by omega) hs hi3
      have c5 := node2_c (E := E) (k := 10) (l := [x.raw, y.raw]) (by simp; omega) (by simp)
      simp at c5
      simp [restP, hx, hy] at hx0 hσ0
      subst hx0 hσ0
      (repeat (first | refine Wp.seq ?_ | refine Wp.block ?_ | refine Wp.skip ?_ | refine Wp.exit ?_ | refine Wp.ret ?_ | refine thenK_n ?_ | refine thenK_r ?_ | refine thenK_e ?_ | refine blockK_n ?_ | refine blockK_r ?_ | refine blockK_e ?_ | refine blockK_o (by decide) ?_ | (refine Wp.condT ?_ ?_; focus (simp -implicitDefEqProofs [hz0, cx, cy, c5, hw, Ty.raw] <;> fail)) | (refine Wp.condF ?_ ?_; focus (simp -implicitDefEqProofs [hz0, cx, cy, c5, hw, Ty.raw] <;> fail)) | refine Wp.reg (by simp -implicitDefEqProofs [hz0, cx, cy, c5, hw, Ty.raw]; exact ⟨rfl, rfl⟩) ?_ | refine Wp.regA (by simp -implicitDefEqProofs [hz0, cx, cy, c5, hw, Ty.raw]; exact ⟨rfl, rfl⟩) (by rfl) ?_))
      (apply endK_r; (focus (simp -implicitDefEqProofs [Tryz.f14, Tm.raw, noTy]; try rfl)); (focus (intro g; simp -implicitDefEqProofs [Tryz.f14, Tm.raw, noTy])); exact ⟨_, rfl⟩)
    | fn a b =>
      simp only [Ty.size] at ht
      obtain ⟨g2, hg2⟩ : ∃ g2, g ++ [a] = g2 := ⟨_, rfl⟩
      obtain ⟨x, i3, hx⟩ : ∃ x i3, term0 zs b g2 i₀ = (x, i3) := ⟨_, _, rfl⟩
      obtain ⟨⟨hi3, hxn⟩, cx⟩ := hcs b g2 i₀ x i3 hx (by simp only [Ty.size]; omega) (by rw [← hg2]; simp) (by rw [← hg2]; exact hg3 _ (by simp; omega)) hi'
      have c4 := longer1_c (E := E) (g' := g) (h := [a]) (by simp; omega)
      rw [hg2] at c4
      simp at c4
      have c5 := nodeT2_c (E := E) (k := 2) (m := a.raw.k) (us := a.raw.as) (l := [x.raw]) (by simp [Ty.raw_nodes]; omega) (by simp; omega) (by simp)
      simp at c5
      simp [restP, hg2, hx] at hx0 hσ0
      subst hx0 hσ0
      (repeat (first | refine Wp.seq ?_ | refine Wp.block ?_ | refine Wp.skip ?_ | refine Wp.exit ?_ | refine Wp.ret ?_ | refine thenK_n ?_ | refine thenK_r ?_ | refine thenK_e ?_ | refine blockK_n ?_ | refine blockK_r ?_ | refine blockK_e ?_ | refine blockK_o (by decide) ?_ | (refine Wp.condT ?_ ?_; focus (simp -implicitDefEqProofs [hz0, cx, c4, c5, hw, Ty.raw] <;> fail)) | (refine Wp.condF ?_ ?_; focus (simp -implicitDefEqProofs [hz0, cx, c4, c5, hw, Ty.raw] <;> fail)) | refine Wp.reg (by simp -implicitDefEqProofs [hz0, cx, c4, c5, hw, Ty.raw]; exact ⟨rfl, rfl⟩) ?_ | refine Wp.regA (by simp -implicitDefEqProofs [hz0, cx, c4, c5, hw, Ty.raw]; exact ⟨rfl, rfl⟩) (by rfl) ?_))
      (apply endK_r; (focus (simp -implicitDefEqProofs [Tryz.f14, Tm.raw, noTy]; try rfl)); (focus (intro g; simp -implicitDefEqProofs [Tryz.f14, Tm.raw, noTy])); exact ⟨_, rfl⟩)
  | succ d =>
  obtain rfl : z = (d : Int) + 1 := by omega
  have hw : IntKind.i64.wrap (d : Int) = d := IntWalk.i64_in _ (by omega)
  have hdp : (0 : Int) < (d : Int) + 1 := by omega
  have hcs : ∀ (t' : Ty) (g' : List Ty) (i' : Nat) (x : Tm) (j : Nat), termP zs d t' g' i' = (x, j) → t'.size ≤ 64 → g'.length ≤ g.length + 3 → (∀ s ∈ g', s.size ≤ 64) → i' ≤ zs.length →
      (j ≤ zs.length ∧ x.raw.nodes ≤ 20000000) ∧ ∀ (gg b : Nat) (S : St) (o1 o2 : Own), sd S.σ b = some [.sl (zs.map ic) .dead, .int .i64 i'] → callT (X.at gg) (den X E) S 14 [.loc b 0, .sl (g'.map (RT.cells ∘ Ty.raw)) o1, .agg [.int .i64 t'.raw.k, .sl (List.map RT.cells t'.raw.as) o2], .int .i64 d] =
        some (.agg [.int .i64 x.raw.k, .int .i64 x.raw.i, .int .i64 x.raw.ty.k, .sl (List.map RT.cells x.raw.ty.as) .dead, .sl (List.map RM.cells x.raw.as) .dead], { S with σ := S.σ.set b [.sl (zs.map ic) .dead, .int .i64 j] }) := by
    intro t' g' i' x j hx ht' hgl hgs hi1
    refine ⟨term_facts hx (by omega) ht' hgs hi1, fun gg b S o1 o2 hS => ?_⟩
    have := hcall d t' d g' i' (by omega) (by omega) (by omega) (by omega) ht' (by omega) hgs hi1 (by omega) gg b S o1 o2 hS
    rw [hx] at this
    exact this
  have hg3 : ∀ (l : List Ty), (∀ s ∈ l, s.size ≤ 64) → ∀ s ∈ g ++ l, s.size ≤ 64 := fun l hl s hs' => by
    rcases List.mem_append.1 hs' with h | h
    · exact hs s h
    · exact hl s h
  obtain ⟨p, i1, hp⟩ : ∃ p i1, nextP zs i₀ 8 = (p, i1) := ⟨_, _, rfl⟩
  obtain ⟨h0, h8, hi1⟩ := nextP_eq hp (by decide) hi'
  have c2 := next_c (E := E) zs i₀ 8 (by decide) (by decide) hi' hz
  simp only [hp] at c2
  refine Wp.seq ?_
  refine Wp.cutF (36 :: 37 :: 38 :: 39 :: [10, 11, 12, 13, 14, 15, 16, 40, 41, 42, 43, 44, 45, 46, 47, 48, 49, 50, 51, 52, 53, 54, 55, 56, 57, 58, 59, 60, 61, 62, 63, 64, 65, 66, 67, 68, 69, 70, 71, 72, 73, 74, 75, 76, 77, 78, 79, 80, 81, 82, 83, 84, 85, 86, 87, 88, 89, 90, 91, 92, 93, 94, 95, 96, 97, 98, 99, 100, 101, 102, 103, 104, 105, 106, 107, 108, 109, 110, 111, 112, 113, 114, 115, 116, 117, 118, 119, 120, 121, 122, 123, 124, 125, 126, 127, 128, 129, 130, 131, 132, 133, 134, 135, 136, 137, 138, 139, 140, 141, 142, 143, 144, 145, 146, 147, 148, 149, 150, 151, 152, 153, 154, 155, 156, 157, 158, 159, 160, 161, 162, 163, 164, 165, 166, 167, 168, 169, 170, 171, 172, 173, 174, 175, 176, 177, 178, 179, 180, 181, 182, 183, 184, 185, 186, 187, 188, 189, 190, 191, 192, 193, 194, 195, 196, 197, 198, 199, 200, 201, 202, 203, 204, 205, 206, 207, 208, 209, 210, 211, 212]) [0] (fun w c tk => ∃ i', c 0 = [.sl (zs.map ic) .dead, .int .i64 (i' : Nat)] ∧ i' ≤ zs.length ∧ tk = [] ∧ restP zs (d + 1) t g i₀ = tailP zs (termP zs d) t g i') ?_ ?_ ?_ ?_
  · rfl
  · rfl
  · (repeat (first | refine Wp.seq ?_ | refine Wp.block ?_ | refine Wp.skip ?_ | refine Wp.exit ?_ | refine Wp.ret ?_ | refine thenK_n ?_ | refine thenK_r ?_ | refine thenK_e ?_ | refine blockK_n ?_ | refine blockK_r ?_ | refine blockK_e ?_ | refine blockK_o (by decide) ?_ | (refine Wp.condT ?_ ?_; focus (simp -implicitDefEqProofs [hdp, c2] <;> fail)) | (refine Wp.condF ?_ ?_; focus (simp -implicitDefEqProofs [hdp, c2] <;> fail)) | refine Wp.reg (by simp -implicitDefEqProofs [hdp, c2]; exact ⟨rfl, rfl⟩) ?_ | refine Wp.regA (by simp -implicitDefEqProofs [hdp, c2]; exact ⟨rfl, rfl⟩) (by rfl) ?_))
    simp only [restP, midP, hp] at hx0 hσ0 ⊢
    obtain ⟨s, i2, hts⟩ : ∃ s i2, typeP zs 0 i1 = (s, i2) := ⟨_, _, rfl⟩
    have hss : s.size ≤ 64 := by have := typeP_size zs 0 i1; rw [hts] at this; simp at this; omega
    have hi2 : i2 ≤ zs.length := by have := typeP_le (zs := zs) 0 hi1; rw [hts] at this; exact this
    have c3 := mkType_c (E := E) zs hz 0 i1 (by decide) hi1
    simp [hts] at c3
    by_cases p0 : p = 0
    · subst p0
      obtain ⟨g2, hg2⟩ : ∃ g2, g ++ [s] = g2 := ⟨_, rfl⟩
      obtain ⟨x, i3, hx⟩ : ∃ x i3, termP zs d t g2 i2 = (x, i3) := ⟨_, _, rfl⟩
      obtain ⟨y, i4, hy⟩ : ∃ y i4, termP zs d s g i3 = (y, i4) := ⟨_, _, rfl⟩
      obtain ⟨⟨hi3, hxn⟩, cx⟩ := hcs t g2 i2 x i3 hx ht (by rw [← hg2]; simp) (by rw [← hg2]; exact hg3 _ (by simpa using hss)) hi2
      obtain ⟨⟨hi4, hyn⟩, cy⟩ := hcs s g i3 y i4 hy hss (by omega) hs hi3
      have c4 := longer1_c (E := E) (g' := g) (h := [s]) (by simp; omega)
      rw [hg2] at c4
      simp at c4
      have c5 := nodeT2_c (E := E) (k := 2) (m := s.raw.k) (us := s.raw.as) (l := [x.raw]) (by simp [Ty.raw_nodes]; omega) (by simp; omega) (by simp)
      simp at c5
      have c6 := node2_c (E := E) (k := 3) (l := [(Tm.lam s x).raw, y.raw]) (by simp [Tm.raw, RM.nodes_mk, Ty.raw_nodes]; omega) (by simp)
      simp [Tm.raw] at c6
      simp only [hts, hg2, hx, hy, if_true] at hx0 hσ0
      subst hx0 hσ0
      (repeat (first | refine Wp.seq ?_ | refine Wp.block ?_ | refine Wp.skip ?_ | refine Wp.exit ?_ | refine Wp.ret ?_ | refine thenK_n ?_ | refine thenK_r ?_ | refine thenK_e ?_ | refine blockK_n ?_ | refine blockK_r ?_ | refine blockK_e ?_ | refine blockK_o (by decide) ?_ | (refine Wp.condT ?_ ?_; focus (simp -implicitDefEqProofs [c3, c4, c5, c6, cx, cy, hw] <;> fail)) | (refine Wp.condF ?_ ?_; focus (simp -implicitDefEqProofs [c3, c4, c5, c6, cx, cy, hw] <;> fail)) | refine Wp.reg (by simp -implicitDefEqProofs [c3, c4, c5, c6, cx, cy, hw]; exact ⟨rfl, rfl⟩) ?_ | refine Wp.regA (by simp -implicitDefEqProofs [c3, c4, c5, c6, cx, cy, hw]; exact ⟨rfl, rfl⟩) (by rfl) ?_))
      (apply endK_r; (focus (simp -implicitDefEqProofs [Tryz.f14, Tm.raw, noTy]; try rfl)); (focus (intro g; simp -implicitDefEqProofs [Tryz.f14, Tm.raw, noTy])); exact ⟨_, rfl⟩)
    by_cases p1 : p = 1
    · subst p1
      obtain ⟨x, i3, hx⟩ : ∃ x i3, termP zs d t g i2 = (x, i3) := ⟨_, _, rfl⟩
      obtain ⟨y, i4, hy⟩ : ∃ y i4, termP zs d s g i3 = (y, i4) := ⟨_, _, rfl⟩
      obtain ⟨⟨hi3, hxn⟩, cx⟩ := hcs t g i2 x i3 hx ht (by omega) hs hi2
      obtain ⟨⟨hi4, hyn⟩, cy⟩ := hcs s g i3 y i4 hy hss (by omega) hs hi3
      have c5 := node2_c (E := E) (k := 10) (l := [x.raw, y.raw]) (by simp; omega) (by simp)
      simp at c5
      have c6 := node2_c (E := E) (k := 11) (l := [(Tm.pair x y).raw]) (by simp [Tm.raw, RM.nodes_mk, RT.nodes_mk, noTy]; omega) (by simp)
      simp [Tm.raw, noTy] at c6
      simp only [hts, hx, hy, if_true] at hx0 hσ0
      simp at hx0 hσ0
      subst hx0 hσ0
      (repeat (first | refine Wp.seq ?_ | refine Wp.block ?_ | refine Wp.skip ?_ | refine Wp.exit ?_ | refine Wp.ret ?_ | refine thenK_n ?_ | refine thenK_r ?_ | refine thenK_e ?_ | refine blockK_n ?_ | refine blockK_r ?_ | refine blockK_e ?_ | refine blockK_o (by decide) ?_ | (refine Wp.condT ?_ ?_; focus (simp -implicitDefEqProofs [c3, c5, c6, cx, cy, hw] <;> fail)) | (refine Wp.condF ?_ ?_; focus (simp -implicitDefEqProofs [c3, c5, c6, cx, cy, hw] <;> fail)) | refine Wp.reg (by simp -implicitDefEqProofs [c3, c5, c6, cx, cy, hw]; exact ⟨rfl, rfl⟩) ?_ | refine Wp.regA (by simp -implicitDefEqProofs [c3, c5, c6, cx, cy, hw]; exact ⟨rfl, rfl⟩) (by rfl) ?_))
      (apply endK_r; (focus (simp -implicitDefEqProofs [Tryz.f14, Tm.raw, noTy]; try rfl)); (focus (intro g; simp -implicitDefEqProofs [Tryz.f14, Tm.raw, noTy])); exact ⟨_, rfl⟩)
    by_cases p2 : p = 2
    · subst p2
      obtain ⟨g2, hg2⟩ : ∃ g2, g ++ [.nat, t] = g2 := ⟨_, rfl⟩
      obtain ⟨x, i3, hx⟩ : ∃ x i3, termP zs d t g2 i1 = (x, i3) := ⟨_, _, rfl⟩
      obtain ⟨y, i4, hy⟩ : ∃ y i4, termP zs d t g i3 = (y, i4) := ⟨_, _, rfl⟩
      obtain ⟨⟨hi3, hxn⟩, cx⟩ := hcs t g2 i1 x i3 hx ht (by rw [← hg2]; simp) (by rw [← hg2]; exact hg3 _ (by simp [Ty.size]; exact ht)) hi1
      obtain ⟨⟨hi4, hyn⟩, cy⟩ := hcs t g i3 y i4 hy ht (by omega) hs hi3
      obtain ⟨q, i5, hq⟩ : ∃ q i5, nextP zs i4 3 = (q, i5) := ⟨_, _, rfl⟩
      obtain ⟨hq0, hq3, hi5⟩ := nextP_eq hq (by decide) hi4
      obtain ⟨q, rfl⟩ : ∃ k : Nat, q = k := ⟨q.toNat, by omega⟩
      have c4 := longer1_c (E := E) (g' := g) (h := [.nat, t]) (by simp; omega)
      rw [hg2] at c4
      simp [Ty.raw] at c4
      have c5 := nodeT2_c (E := E) (k := 2) (m := t.raw.k) (us := t.raw.as) (l := [x.raw]) (by simp [Ty.raw_nodes]; omega) (by simp; omega) (by simp)
      simp at c5
      have c6 := nodeT2_c (E := E) (k := 2) (m := 1) (us := []) (l := [(Tm.lam t x).raw]) (by simp [RT.nodes_mk]) (by simp [Tm.raw, RM.nodes_mk, Ty.raw_nodes]; omega) (by simp)
      simp [Tm.raw] at c6
      have c7 := next_c (E := E) zs i4 3 (by decide) (by decide) hi4 hz
      simp only [hq] at c7
      have c8 := mkNum_c (E := E) (q := q) (by omega)
      have c9 := nodeT2_c (E := E) (k := 6) (m := t.raw.k) (us := t.raw.as) (l := [y.raw, (Tm.lam .nat (.lam t x)).raw, (T.num q).raw]) (by simp [Ty.raw_nodes]; omega) (by
        have h1 := num_small q
        have h2 := (T.num q).raw_nodes h1.1
        rw [h1.2] at h2
        simp [Tm.raw, RM.nodes_mk, Ty.raw_nodes, Ty.size]; omega) (by simp)
      simp [Tm.raw, Ty.raw] at c9
      have c10 := nat1_c (E := E)
      simp only [hg2, hx, hy, hq, if_true] at hx0 hσ0
      simp at hx0 hσ0
      subst hx0 hσ0
      (repeat (first | refine Wp.seq ?_ | refine Wp.block ?_ | refine Wp.skip ?_ | refine Wp.exit ?_ | refine Wp.ret ?_ | refine thenK_n ?_ | refine thenK_r ?_ | refine thenK_e ?_ | refine blockK_n ?_ | refine blockK_r ?_ | refine blockK_e ?_ | refine blockK_o (by decide) ?_ | (refine Wp.condT ?_ ?_; focus (simp -implicitDefEqProofs [c4, c5, c6, c7, c8, c9, c10, cx, cy, hw] <;> fail)) | (refine Wp.condF ?_ ?_; focus (simp -implicitDefEqProofs [c4, c5, c6, c7, c8, c9, c10, cx, cy, hw] <;> fail)) | refine Wp.reg (by simp -implicitDefEqProofs [c4, c5, c6, c7, c8, c9, c10, cx, cy, hw]; exact ⟨rfl, rfl⟩) ?_ | refine Wp.regA (by simp -implicitDefEqProofs [c4, c5, c6, c7, c8, c9, c10, cx, cy, hw]; exact ⟨rfl, rfl⟩) (by rfl) ?_))
      (apply endK_r; (focus (simp -implicitDefEqProofs [Tryz.f14, Tm.raw, Ty.raw, noTy]; try rfl)); (focus (intro g; simp -implicitDefEqProofs [Tryz.f14, Tm.raw, Ty.raw, noTy])); exact ⟨_, rfl⟩)
    by_cases p3 : p = 3
    · subst p3
      obtain ⟨g2, hg2⟩ : ∃ g2, g ++ [.nat, .list, t] = g2 := ⟨_, rfl⟩
      obtain ⟨x, i3, hx⟩ : ∃ x i3, termP zs d t g2 i1 = (x, i3) := ⟨_, _, rfl⟩
      obtain ⟨y, i4, hy⟩ : ∃ y i4, termP zs d t g i3 = (y, i4) := ⟨_, _, rfl⟩
      obtain ⟨u, i5, hu⟩ : ∃ u i5, termP zs d .list g i4 = (u, i5) := ⟨_, _, rfl⟩
      obtain ⟨⟨hi3, hxn⟩, cx⟩ := hcs t g2 i1 x i3 hx ht (by rw [← hg2]; simp) (by rw [← hg2]; exact hg3 _ (by simp [Ty.size]; exact ht)) hi1
      obtain ⟨⟨hi4, hyn⟩, cy⟩ := hcs t g i3 y i4 hy ht (by omega) hs hi3
      obtain ⟨⟨hi5, hun⟩, cu⟩ := hcs .list g i4 u i5 hu (by simp [Ty.size]) (by omega) hs hi4
      simp [Ty.raw] at cu
      have c4 := longer1_c (E := E) (g' := g) (h := [.nat, .list, t]) (by simp; omega)
      rw [hg2] at c4
      simp [Ty.raw] at c4
      have c5 := nodeT2_c (E := E) (k := 2) (m := t.raw.k) (us := t.raw.as) (l := [x.raw]) (by simp [Ty.raw_nodes]; omega) (by simp; omega) (by simp)
      simp at c5
      have c6 := nodeT2_c (E := E) (k := 2) (m := 2) (us := []) (l := [(Tm.lam t x).raw]) (by simp [RT.nodes_mk]) (by simp [Tm.raw, RM.nodes_mk, Ty.raw_nodes]; omega) (by simp)
      simp [Tm.raw] at c6
      have c7 := nodeT2_c (E := E) (k := 2) (m := 1) (us := []) (l := [(Tm.lam .list (.lam t x)).raw]) (by simp [RT.nodes_mk]) (by simp [Tm.raw, RM.nodes_mk, Ty.raw_nodes, Ty.size]; omega) (by simp)
      simp [Tm.raw, Ty.raw] at c7
      have c9 := nodeT2_c (E := E) (k := 9) (m := t.raw.k) (us := t.raw.as) (l := [y.raw, (Tm.lam .nat (.lam .list (.lam t x))).raw, u.raw]) (by simp [Ty.raw_nodes]; omega) (by simp [Tm.raw, RM.nodes_mk, Ty.raw_nodes, Ty.size]; omega) (by simp)
      simp [Tm.raw, Ty.raw] at c9
      have c10 := nat1_c (E := E)
      have c11 := list1_c (E := E)
      simp only [hg2, hx, hy, hu, if_true] at hx0 hσ0
      simp at hx0 hσ0
      subst hx0 hσ0
      (repeat (first | refine Wp.seq ?_ | refine Wp.block ?_ | refine Wp.skip ?_ | refine Wp.exit ?_ | refine Wp.ret ?_ | refine thenK_n ?_ | refine thenK_r ?_ | refine thenK_e ?_ | refine blockK_n ?_ | refine blockK_r ?_ | refine blockK_e ?_ | refine blockK_o (by decide) ?_ | (refine Wp.condT ?_ ?_; focus (simp -implicitDefEqProofs [c4, c5, c6, c7, c9, c10, c11, cx, cy, cu, hw] <;> fail)) | (refine Wp.condF ?_ ?_; focus (simp -implicitDefEqProofs [c4, c5, c6, c7, c9, c10, c11, cx, cy, cu, hw] <;> fail)) | refine Wp.reg (by simp -implicitDefEqProofs [c4, c5, c6, c7, c9, c10, c11, cx, cy, cu, hw]; exact ⟨rfl, rfl⟩) ?_ | refine Wp.regA (by simp -implicitDefEqProofs [c4, c5, c6, c7, c9, c10, c11, cx, cy, cu, hw]; exact ⟨rfl, rfl⟩) (by rfl) ?_))
      (apply endK_r; (focus (simp -implicitDefEqProofs [Tryz.f14, Tm.raw, Ty.raw, noTy]; try rfl)); (focus (intro g; simp -implicitDefEqProofs [Tryz.f14, Tm.raw, Ty.raw, noTy])); exact ⟨_, rfl⟩)
    by_cases p4 : p = 4
    · subst p4
      obtain ⟨x, i3, hx⟩ : ∃ x i3, termP zs d s g i2 = (x, i3) := ⟨_, _, rfl⟩
      obtain ⟨y, i4, hy⟩ : ∃ y i4, termP zs d t g i3 = (y, i4) := ⟨_, _, rfl⟩
      obtain ⟨⟨hi3, hxn⟩, cx⟩ := hcs s g i2 x i3 hx hss (by omega) hs hi2
      obtain ⟨⟨hi4, hyn⟩, cy⟩ := hcs t g i3 y i4 hy ht (by omega) hs hi3
      have c5 := node2_c (E := E) (k := 10) (l := [x.raw, y.raw]) (by simp; omega) (by simp)
      simp at c5
      have c6 := node2_c (E := E) (k := 12) (l := [(Tm.pair x y).raw]) (by simp [Tm.raw, RM.nodes_mk, RT.nodes_mk, noTy]; omega) (by simp)
      simp [Tm.raw, noTy] at c6
      simp only [hts, hx, hy, if_true] at hx0 hσ0
      simp at hx0 hσ0
      subst hx0 hσ0
      (repeat (first | refine Wp.seq ?_ | refine Wp.block ?_ | refine Wp.skip ?_ | refine Wp.exit ?_ | refine Wp.ret ?_ | refine thenK_n ?_ | refine thenK_r ?_ | refine thenK_e ?_ | refine blockK_n ?_ | refine blockK_r ?_ | refine blockK_e ?_ | refine blockK_o (by decide) ?_ | (refine Wp.condT ?_ ?_; focus (simp -implicitDefEqProofs [c3, c5, c6, cx, cy, hw] <;> fail)) | (refine Wp.condF ?_ ?_; focus (simp -implicitDefEqProofs [c3, c5, c6, cx, cy, hw] <;> fail)) | refine Wp.reg (by simp -implicitDefEqProofs [c3, c5, c6, cx, cy, hw]; exact ⟨rfl, rfl⟩) ?_ | refine Wp.regA (by simp -implicitDefEqProofs [c3, c5, c6, cx, cy, hw]; exact ⟨rfl, rfl⟩) (by rfl) ?_))
      (apply endK_r; (focus (simp -implicitDefEqProofs [Tryz.f14, Tm.raw, noTy]; try rfl)); (focus (intro g; simp -implicitDefEqProofs [Tryz.f14, Tm.raw, noTy])); exact ⟨_, rfl⟩)
    by_cases p5 : p = 5
    rotate_left
    · simp only [if_neg p0, if_neg p1, if_neg p2, if_neg p3, if_neg p4, if_neg p5]
      (repeat (first | refine Wp.seq ?_ | refine Wp.block ?_ | refine Wp.skip ?_ | refine Wp.exit ?_ | refine Wp.ret ?_ | refine thenK_n ?_ | refine thenK_r ?_ | refine thenK_e ?_ | refine blockK_n ?_ | refine blockK_r ?_ | refine blockK_e ?_ | refine blockK_o (by decide) ?_ | (refine Wp.condT ?_ ?_; focus (simp -implicitDefEqProofs [p0, p1, p2, p3, p4, p5] <;> fail)) | (refine Wp.condF ?_ ?_; focus (simp -implicitDefEqProofs [p0, p1, p2, p3, p4, p5] <;> fail)) | refine Wp.reg (by simp -implicitDefEqProofs [p0, p1, p2, p3, p4, p5]; exact ⟨rfl, rfl⟩) ?_ | refine Wp.regA (by simp -implicitDefEqProofs [p0, p1, p2, p3, p4, p5]; exact ⟨rfl, rfl⟩) (by rfl) ?_))
      refine ⟨by simp, ⟨_, by simp -implicitDefEqProofs; rfl⟩, i1, by simp, hi1, rfl, rfl⟩
    subst p5
    have hgl : (g.length : Int) < 2000 := by omega
    (repeat (first | refine Wp.seq ?_ | refine Wp.block ?_ | refine Wp.skip ?_ | refine Wp.exit ?_ | refine Wp.ret ?_ | refine thenK_n ?_ | refine thenK_r ?_ | refine thenK_e ?_ | refine blockK_n ?_ | refine blockK_r ?_ | refine blockK_e ?_ | refine blockK_o (by decide) ?_ | (refine Wp.condT ?_ ?_; focus (simp -implicitDefEqProofs <;> fail)) | (refine Wp.condF ?_ ?_; focus (simp -implicitDefEqProofs <;> fail)) | refine Wp.reg (by simp -implicitDefEqProofs; exact ⟨rfl, rfl⟩) ?_ | refine Wp.regA (by simp -implicitDefEqProofs; exact ⟨rfl, rfl⟩) (by rfl) ?_))
    refine Wp.loopF [15, 16, 177, 178, 179, 180, 181, 182, 183, 184, 185, 186, 187, 188, 189, 190, 191, 192, 193, 194, 195, 196, 197, 198, 199, 200, 201, 202, 203, 204, 205, 206, 207, 208, 209, 210, 211, 212] [] (fun n w c tk => ∃ j, n = g.length - j ∧ j ≤ g.length ∧ w 177 = .int .i64 j ∧ tk = [] ∧ ∀ k < j, ∀ a, g.reverse[k]? ≠ some (.fn a t)) (g.length) ?_ ?_ ?_ ?_
    · rfl
    · rfl
    · exact ⟨0, by simp, by omega, rfl, rfl, by simp⟩
    rintro n w c1 junk1 tk r σ ⟨j, rfl, hj, h177, rfl, hno⟩ hr hσ
    simp -implicitDefEqProofs [h177, hc0] at hr hσ
    subst hr hσ
    by_cases hjl : j < g.length
    rotate_left
    · have hje : j = g.length := by omega
      subst hje
      have hff := findFn_none hno
      (repeat (first | refine Wp.seq ?_ | refine Wp.block ?_ | refine Wp.skip ?_ | refine Wp.exit ?_ | refine Wp.ret ?_ | refine thenK_n ?_ | refine thenK_r ?_ | refine thenK_e ?_ | refine blockK_n ?_ | refine blockK_r ?_ | refine blockK_e ?_ | refine blockK_o (by decide) ?_ | (refine Wp.condT ?_ ?_; focus (simp -implicitDefEqProofs <;> fail)) | (refine Wp.condF ?_ ?_; focus (simp -implicitDefEqProofs <;> fail)) | refine Wp.reg (by simp -implicitDefEqProofs; exact ⟨rfl, rfl⟩) ?_ | refine Wp.regA (by simp -implicitDefEqProofs; exact ⟨rfl, rfl⟩) (by rfl) ?_))
      simp only [hff]
      refine ⟨by simp, ⟨_, by simp -implicitDefEqProofs; rfl⟩, i1, by simp, hi1, by first | trivial | rfl | simp, by first | trivial | rfl | simp⟩
    have hidx : ((g.length : Int) - 1 - j).toNat = g.length - 1 - j := by omega
    have hge : (j : Int) ≤ (g.length : Int) - 1 := by omega
    have hwj : IntKind.i64.wrap ((j : Int) + 1) = j + 1 := IntWalk.i64_in _ (by omega)
    have hw1 : IntKind.i64.wrap ((g.length : Int) - 1) = g.length - 1 := IntWalk.i64_in _ (by omega)
    have hw2 : IntKind.i64.wrap ((g.length : Int) - 1 - j) = (g.length : Int) - 1 - j := IntWalk.i64_in _ (by omega)
    obtain ⟨s, hsel⟩ : ∃ s, g[g.length - 1 - j]? = some s := ⟨_, List.getElem?_eq_getElem (by omega)⟩
    have hel : el g (g.length - 1 - j) = some s := hsel
    have hmem : s ∈ g := List.mem_of_getElem? hsel
    have hrev : g.reverse[j]? = some s := by rw [List.getElem?_reverse hjl, hsel]
    have hsz := hs s hmem
    by_cases hfn : ∃ a, s = .fn a t
    · obtain ⟨a, rfl⟩ := hfn
      have hff := findFn_hit hjl hno hrev
      simp only [Ty.size] at hsz
      obtain ⟨x, i3, hx⟩ : ∃ x i3, termP zs d a g i1 = (x, i3) := ⟨_, _, rfl⟩
      obtain ⟨⟨hi3, hxn⟩, cx⟩ := hcs a g i1 x i3 hx (by omega) (by omega) hs hi1
      have c5 := same1_c (E := E) (k := t.raw.k) (m := t.raw.k) (ts := t.raw.as) (us := t.raw.as) (by simp [Ty.raw_nodes]; omega)
      simp only [RT.eta, Ty.raw_beq, decide_true] at c5
      have c6 := var2_c (E := E) (i := (j : Int))
      have c7 := node2_c (E := E) (k := 3) (l := [(Tm.var j).raw, x.raw]) (by simp [Tm.raw, RM.nodes_mk, RT.nodes_mk, noTy]; omega) (by simp)
      simp [Tm.raw, noTy] at c7
      simp [hff, hx] at hx0 hσ0
      subst hx0 hσ0
      (repeat (first | refine Wp.seq ?_ | refine Wp.block ?_ | refine Wp.skip ?_ | refine Wp.exit ?_ | refine Wp.ret ?_ | refine thenK_n ?_ | refine thenK_r ?_ | refine thenK_e ?_ | refine blockK_n ?_ | refine blockK_r ?_ | refine blockK_e ?_ | refine blockK_o (by decide) ?_ | (refine Wp.condT ?_ ?_; focus (simp -implicitDefEqProofs [hjl, hw1, hw2, hidx, hge, hel, cx, c5, c6, c7, hw, Ty.raw] <;> fail)) | (refine Wp.condF ?_ ?_; focus (simp -implicitDefEqProofs [hjl, hw1, hw2, hidx, hge, hel, cx, c5, c6, c7, hw, Ty.raw] <;> fail)) | refine Wp.reg (by simp -implicitDefEqProofs [hjl, hw1, hw2, hidx, hge, hel, cx, c5, c6, c7, hw, Ty.raw]; exact ⟨rfl, rfl⟩) ?_ | refine Wp.regA (by simp -implicitDefEqProofs [hjl, hw1, hw2, hidx, hge, hel, cx, c5, c6, c7, hw, Ty.raw]; exact ⟨rfl, rfl⟩) (by rfl) ?_))
      (apply endK_r; (focus (simp -implicitDefEqProofs [Tryz.f14, Tm.raw, noTy]; try rfl)); (focus (intro g; simp -implicitDefEqProofs [Tryz.f14, Tm.raw, noTy])); exact ⟨_, rfl⟩)
    have hno' : ∀ k < j + 1, ∀ a, g.reverse[k]? ≠ some (.fn a t) := by
      intro k hk a hka
      rcases Nat.lt_succ_iff_lt_or_eq.1 hk with h | rfl
      · exact hno k h a hka
      · rw [hrev] at hka
        cases hka
        exact hfn ⟨a, rfl⟩
    have hs4 : ∀ a b : Ty, s = .fn a b → ¬ b = t := fun a b h1 h2 => hfn ⟨a, by rw [h1, h2]⟩
    cases s with
    | fn a b =>
      have c5 := same1_c (E := E) (k := b.raw.k) (m := t.raw.k) (ts := b.raw.as) (us := t.raw.as) (by simp only [Ty.size] at hsz; simp [Ty.raw_nodes]; omega)
      simp only [RT.eta, Ty.raw_beq, decide_eq_false (hs4 a b rfl)] at c5
      (repeat (first | refine Wp.seq ?_ | refine Wp.block ?_ | refine Wp.skip ?_ | refine Wp.exit ?_ | refine Wp.ret ?_ | refine thenK_n ?_ | refine thenK_r ?_ | refine thenK_e ?_ | refine blockK_n ?_ | refine blockK_r ?_ | refine blockK_e ?_ | refine blockK_o (by decide) ?_ | (refine Wp.condT ?_ ?_; focus (simp -implicitDefEqProofs [hjl, hw1, hw2, hwj, hidx, hge, hel, c5, hw, Ty.raw] <;> fail)) | (refine Wp.condF ?_ ?_; focus (simp -implicitDefEqProofs [hjl, hw1, hw2, hwj, hidx, hge, hel, c5, hw, Ty.raw] <;> fail)) | refine Wp.reg (by simp -implicitDefEqProofs [hjl, hw1, hw2, hwj, hidx, hge, hel, c5, hw, Ty.raw]; exact ⟨rfl, rfl⟩) ?_ | refine Wp.regA (by simp -implicitDefEqProofs [hjl, hw1, hw2, hwj, hidx, hge, hel, c5, hw, Ty.raw]; exact ⟨rfl, rfl⟩) (by rfl) ?_))
      refine ⟨by simp, ⟨_, by simp -implicitDefEqProofs; rfl⟩, g.length - (j + 1), by omega, j + 1, rfl, by omega, by simp, rfl, hno'⟩
    | _ =>
      (repeat (first | refine Wp.seq ?_ | refine Wp.block ?_ | refine Wp.skip ?_ | refine Wp.exit ?_ | refine Wp.ret ?_ | refine thenK_n ?_ | refine thenK_r ?_ | refine thenK_e ?_ | refine blockK_n ?_ | refine blockK_r ?_ | refine blockK_e ?_ | refine blockK_o (by decide) ?_ | (refine Wp.condT ?_ ?_; focus (simp -implicitDefEqProofs [hjl, hw1, hw2, hwj, hidx, hge, hel, hw, Ty.raw] <;> fail)) | (refine Wp.condF ?_ ?_; focus (simp -implicitDefEqProofs [hjl, hw1, hw2, hwj, hidx, hge, hel, hw, Ty.raw] <;> fail)) | refine Wp.reg (by simp -implicitDefEqProofs [hjl, hw1, hw2, hwj, hidx, hge, hel, hw, Ty.raw]; exact ⟨rfl, rfl⟩) ?_ | refine Wp.regA (by simp -implicitDefEqProofs [hjl, hw1, hw2, hwj, hidx, hge, hel, hw, Ty.raw]; exact ⟨rfl, rfl⟩) (by rfl) ?_))
      refine ⟨by simp, ⟨_, by simp -implicitDefEqProofs; rfl⟩, g.length - (j + 1), by omega, j + 1, rfl, by omega, by simp, rfl, hno'⟩
  clear c2 hp h0 h8 hi1
  rintro w c junk tk r σ ⟨i1, hc0, hi1, rfl, hr3⟩ hr hσ
  simp -implicitDefEqProofs [hc0] at hr hσ
  subst hr hσ
  rw [hr3] at hx0 hσ0
  clear hr3
  cases t with
  | nat =>
    obtain ⟨p, i2, hp⟩ : ∃ p i2, nextP zs i1 5 = (p, i2) := ⟨_, _, rfl⟩
    obtain ⟨h0, h8, hi2⟩ := nextP_eq hp (by decide) hi1
    have c2 := next_c (E := E) zs i1 5 (by decide) (by decide) hi1 hz
    simp only [hp] at c2
    obtain ⟨x, i3, hx⟩ : ∃ x i3, termP zs d .nat g i2 = (x, i3) := ⟨_, _, rfl⟩
    obtain ⟨y, i4, hy⟩ : ∃ y i4, termP zs d .nat g i3 = (y, i4) := ⟨_, _, rfl⟩
    obtain ⟨⟨hi3, hxn⟩, cx⟩ := hcs .nat g i2 x i3 hx (by simp [Ty.size]) (by omega) hs hi2
    obtain ⟨⟨hi4, hyn⟩, cy⟩ := hcs .nat g i3 y i4 hy (by simp [Ty.size]) (by omega) hs hi3
    simp [Ty.raw] at cx cy
    simp only [tailP, hp, hx, hy] at hx0 hσ0
    by_cases p0 : p = 0
    · subst p0
      have c5 := node2_c (E := E) (k := 5) (l := [x.raw]) (by simp; omega) (by simp)
      simp at c5
      simp at hx0 hσ0
      subst hx0 hσ0
      (repeat (first | refine Wp.seq ?_ | refine Wp.block ?_ | refine Wp.skip ?_ | refine Wp.exit ?_ | refine Wp.ret ?_ | refine thenK_n ?_ | refine thenK_r ?_ | refine thenK_e ?_ | refine blockK_n ?_ | refine blockK_r ?_ | refine blockK_e ?_ | refine blockK_o (by decide) ?_ | (refine Wp.condT ?_ ?_; focus (simp -implicitDefEqProofs [hdp, c2, cx, c5, hw, Ty.raw] <;> fail)) | (refine Wp.condF ?_ ?_; focus (simp -implicitDefEqProofs [hdp, c2, cx, c5, hw, Ty.raw] <;> fail)) | refine Wp.reg (by simp -implicitDefEqProofs [hdp, c2, cx, c5, hw, Ty.raw]; exact ⟨rfl, rfl⟩) ?_ | refine Wp.regA (by simp -implicitDefEqProofs [hdp, c2, cx, c5, hw, Ty.raw]; exact ⟨rfl, rfl⟩) (by rfl) ?_))
      (apply endK_r; (focus (simp -implicitDefEqProofs [Tryz.f14, Tm.raw, noTy]; try rfl)); (focus (intro g; simp -implicitDefEqProofs [Tryz.f14, Tm.raw, noTy])); exact ⟨_, rfl⟩)
    by_cases p1 : p = 1
    · subst p1
      have c5 := appC (E := E) T.plus.raw [x.raw, y.raw] (by have := plus_nodes; simp; omega)
      have hap : T.plus.raw.app [x.raw, y.raw] = (Tm.app (.app T.plus x) y).raw := rfl
      rw [hap] at c5
      simp [Tm.raw] at c5
      have c6 := rplus_c (E := E)
      simp at hx0 hσ0
      subst hx0 hσ0
      (repeat (first | refine Wp.seq ?_ | refine Wp.block ?_ | refine Wp.skip ?_ | refine Wp.exit ?_ | refine Wp.ret ?_ | refine thenK_n ?_ | refine thenK_r ?_ | refine thenK_e ?_ | refine blockK_n ?_ | refine blockK_r ?_ | refine blockK_e ?_ | refine blockK_o (by decide) ?_ | (refine Wp.condT ?_ ?_; focus (simp -implicitDefEqProofs [hdp, c2, cx, cy, c5, c6, hw, Ty.raw] <;> fail)) | (refine Wp.condF ?_ ?_; focus (simp -implicitDefEqProofs [hdp, c2, cx, cy, c5, c6, hw, Ty.raw] <;> fail)) | refine Wp.reg (by simp -implicitDefEqProofs [hdp, c2, cx, cy, c5, c6, hw, Ty.raw]; exact ⟨rfl, rfl⟩) ?_ | refine Wp.regA (by simp -implicitDefEqProofs [hdp, c2, cx, cy, c5, c6, hw, Ty.raw]; exact ⟨rfl, rfl⟩) (by rfl) ?_))
      (apply endK_r; (focus (simp -implicitDefEqProofs [Tryz.f14, Tm.raw, noTy]; try rfl)); (focus (intro g; simp -implicitDefEqProofs [Tryz.f14, Tm.raw, noTy])); exact ⟨_, rfl⟩)
    by_cases p2 : p = 2
    · subst p2
      have c5 := appC (E := E) T.sub.raw [x.raw, y.raw] (by have := sub_nodes; simp; omega)
      have hap : T.sub.raw.app [x.raw, y.raw] = (Tm.app (.app T.sub x) y).raw := rfl
      rw [hap] at c5
      simp [Tm.raw] at c5
      have c6 := rsub_c (E := E)
      simp at hx0 hσ0
      subst hx0 hσ0
      (repeat (first | refine Wp.seq ?_ | refine Wp.block ?_ | refine Wp.skip ?_ | refine Wp.exit ?_ | refine Wp.ret ?_ | refine thenK_n ?_ | refine thenK_r ?_ | refine thenK_e ?_ | refine blockK_n ?_ | refine blockK_r ?_ | refine blockK_e ?_ | refine blockK_o (by decide) ?_ | (refine Wp.condT ?_ ?_; focus (simp -implicitDefEqProofs [hdp, c2, cx, cy, c5, c6, hw, Ty.raw] <;> fail)) | (refine Wp.condF ?_ ?_; focus (simp -implicitDefEqProofs [hdp, c2, cx, cy, c5, c6, hw, Ty.raw] <;> fail)) | refine Wp.reg (by simp -implicitDefEqProofs [hdp, c2, cx, cy, c5, c6, hw, Ty.raw]; exact ⟨rfl, rfl⟩) ?_ | refine Wp.regA (by simp -implicitDefEqProofs [hdp, c2, cx, cy, c5, c6, hw, Ty.raw]; exact ⟨rfl, rfl⟩) (by rfl) ?_))
      (apply endK_r; (focus (simp -implicitDefEqProofs [Tryz.f14, Tm.raw, noTy]; try rfl)); (focus (intro g; simp -implicitDefEqProofs [Tryz.f14, Tm.raw, noTy])); exact ⟨_, rfl⟩)
    obtain ⟨q, i5, hq⟩ : ∃ q i5, nextP zs i2 3 = (q, i5) := ⟨_, _, rfl⟩
    obtain ⟨hq0, hq3, hi5⟩ := nextP_eq hq (by decide) hi2
    obtain ⟨q, rfl⟩ : ∃ k : Nat, q = k := ⟨q.toNat, by omega⟩
    have c7 := next_c (E := E) zs i2 3 (by decide) (by decide) hi2 hz
    simp only [hq] at c7
    have c8 := mkNum_c (E := E) (q := q) (by omega)
    simp [p0, p1, p2, hq] at hx0 hσ0
    subst hx0 hσ0
    (repeat (first | refine Wp.seq ?_ | refine Wp.block ?_ | refine Wp.skip ?_ | refine Wp.exit ?_ | refine Wp.ret ?_ | refine thenK_n ?_ | refine thenK_r ?_ | refine thenK_e ?_ | refine blockK_n ?_ | refine blockK_r ?_ | refine blockK_e ?_ | refine blockK_o (by decide) ?_ | (refine Wp.condT ?_ ?_; focus (simp -implicitDefEqProofs [hdp, c2, p0, p1, p2, c7, c8, Ty.raw] <;> fail)) | (refine Wp.condF ?_ ?_; focus (simp -implicitDefEqProofs [hdp, c2, p0, p1, p2, c7, c8, Ty.raw] <;> fail)) | refine Wp.reg (by simp -implicitDefEqProofs [hdp, c2, p0, p1, p2, c7, c8, Ty.raw]; exact ⟨rfl, rfl⟩) ?_ | refine Wp.regA (by simp -implicitDefEqProofs [hdp, c2, p0, p1, p2, c7, c8, Ty.raw]; exact ⟨rfl, rfl⟩) (by rfl) ?_))
    (apply endK_r; (focus (simp -implicitDefEqProofs [Tryz.f14, Tm.raw, noTy]; try rfl)); (focus (intro g; simp -implicitDefEqProofs [Tryz.f14, Tm.raw, noTy])); exact ⟨_, rfl⟩)
  | list =>
    obtain ⟨p, i2, hp⟩ : ∃ p i2, nextP zs i1 2 = (p, i2) := ⟨_, _, rfl⟩
    obtain ⟨h0, h8, hi2⟩ := nextP_eq hp (by decide) hi1
    have c2 := next_c (E := E) zs i1 2 (by decide) (by decide) hi1 hz
    simp only [hp] at c2
    obtain ⟨x, i3, hx⟩ : ∃ x i3, termP zs d .nat g i2 = (x, i3) := ⟨_, _, rfl⟩
    obtain ⟨y, i4, hy⟩ : ∃ y i4, termP zs d .list g i3 = (y, i4) := ⟨_, _, rfl⟩
    obtain ⟨⟨hi3, hxn⟩, cx⟩ := hcs .nat g i2 x i3 hx (by simp [Ty.size]) (by omega) hs hi2
    obtain ⟨⟨hi4, hyn⟩, cy⟩ := hcs .list g i3 y i4 hy (by simp [Ty.size]) (by omega) hs hi3
    simp [Ty.raw] at cx cy
    simp only [tailP, hp, hx, hy] at hx0 hσ0
    have c10 := nat1_c (E := E)
    by_cases p0 : p = 0
    · subst p0
      have c5 := node2_c (E := E) (k := 8) (l := [x.raw, y.raw]) (by simp; omega) (by simp)
      simp at c5
      simp at hx0 hσ0
      subst hx0 hσ0
      (repeat (first | refine Wp.seq ?_ | refine Wp.block ?_ | refine Wp.skip ?_ | refine Wp.exit ?_ | refine Wp.ret ?_ | refine thenK_n ?_ | refine thenK_r ?_ | refine thenK_e ?_ | refine blockK_n ?_ | refine blockK_r ?_ | refine blockK_e ?_ | refine blockK_o (by decide) ?_ | (refine Wp.condT ?_ ?_; focus (simp -implicitDefEqProofs [hdp, c2, cx, cy, c5, c10, hw, Ty.raw] <;> fail)) | (refine Wp.condF ?_ ?_; focus (simp -implicitDefEqProofs [hdp, c2, cx, cy, c5, c10, hw, Ty.raw] <;> fail)) | refine Wp.reg (by simp -implicitDefEqProofs [hdp, c2, cx, cy, c5, c10, hw, Ty.raw]; exact ⟨rfl, rfl⟩) ?_ | refine Wp.regA (by simp -implicitDefEqProofs [hdp, c2, cx, cy, c5, c10, hw, Ty.raw]; exact ⟨rfl, rfl⟩) (by rfl) ?_))
      (apply endK_r; (focus (simp -implicitDefEqProofs [Tryz.f14, Tm.raw, noTy]; try rfl)); (focus (intro g; simp -implicitDefEqProofs [Tryz.f14, Tm.raw, noTy])); exact ⟨_, rfl⟩)
    have c5 := node2_c (E := E) (k := 7) (l := []) (by simp) (by simp)
    simp at c5
    simp [p0] at hx0 hσ0
    subst hx0 hσ0
    (repeat (first | refine Wp.seq ?_ | refine Wp.block ?_ | refine Wp.skip ?_ | refine Wp.exit ?_ | refine Wp.ret ?_ | refine thenK_n ?_ | refine thenK_r ?_ | refine thenK_e ?_ | refine blockK_n ?_ | refine blockK_r ?_ | refine blockK_e ?_ | refine blockK_o (by decide) ?_ | (refine Wp.condT ?_ ?_; focus (simp -implicitDefEqProofs [hdp, c2, c5, p0, Ty.raw] <;> fail)) | (refine Wp.condF ?_ ?_; focus (simp -implicitDefEqProofs [hdp, c2, c5, p0, Ty.raw] <;> fail)) | refine Wp.reg (by simp -implicitDefEqProofs [hdp, c2, c5, p0, Ty.raw]; exact ⟨rfl, rfl⟩) ?_ | refine Wp.regA (by simp -implicitDefEqProofs [hdp, c2, c5, p0, Ty.raw]; exact ⟨rfl, rfl⟩) (by rfl) ?_))
    (apply endK_r; (focus (simp -implicitDefEqProofs [Tryz.f14, Tm.raw, noTy]; try rfl)); (focus (intro g; simp -implicitDefEqProofs [Tryz.f14, Tm.raw, noTy])); exact ⟨_, rfl⟩)
  | unit =>
    have c5 := node2_c (E := E) (k := 13) (l := []) (by simp) (by simp)
    simp at c5
    simp [tailP] at hx0 hσ0
    subst hx0 hσ0
    (repeat (first | refine Wp.seq ?_ | refine Wp.block ?_ | refine Wp.skip ?_ | refine Wp.exit ?_ | refine Wp.ret ?_ | refine thenK_n ?_ | refine thenK_r ?_ | refine thenK_e ?_ | refine blockK_n ?_ | refine blockK_r ?_ | refine blockK_e ?_ | refine blockK_o (by decide) ?_ | (refine Wp.condT ?_ ?_; focus (simp -implicitDefEqProofs [c5, Ty.raw] <;> fail)) | (refine Wp.condF ?_ ?_; focus (simp -implicitDefEqProofs [c5, Ty.raw] <;> fail)) | refine Wp.reg (by simp -implicitDefEqProofs [c5, Ty.raw]; exact ⟨rfl, rfl⟩) ?_ | refine Wp.regA (by simp -implicitDefEqProofs [c5, Ty.raw]; exact ⟨rfl, rfl⟩) (by rfl) ?_))
    (apply endK_r; (focus (simp -implicitDefEqProofs [Tryz.f14, Tm.raw, noTy]; try rfl)); (focus (intro g; simp -implicitDefEqProofs [Tryz.f14, Tm.raw, noTy])); exact ⟨_, rfl⟩)
  | pair a b =>
    simp only [Ty.size] at ht
    obtain ⟨x, i3, hx⟩ : ∃ x i3, termP zs d a g i1 = (x, i3) := ⟨_, _, rfl⟩
    obtain ⟨y, i4, hy⟩ : ∃ y i4, termP zs d b g i3 = (y, i4) := ⟨_, _, rfl⟩
    obtain ⟨⟨hi3, hxn⟩, cx⟩ := hcs a g i1 x i3 hx (by omega) (by omega) hs hi1
    obtain ⟨⟨hi4, hyn⟩, cy⟩ := hcs b g i3 y i4 hy (by omega) (by omega) hs hi3
    have c5 := node2_c (E := E) (k := 10) (l := [x.raw, y.raw]) (by simp; omega) (by simp)
    simp at c5
    simp [tailP, hx, hy] at hx0 hσ0
    subst hx0 hσ0
    (repeat (first | refine Wp.seq ?_ | refine Wp.block ?_ | refine Wp.skip ?_ | refine Wp.exit ?_ | refine Wp.ret ?_ | refine thenK_n ?_ | refine thenK_r ?_ | refine thenK_e ?_ | refine blockK_n ?_ | refine blockK_r ?_ | refine blockK_e ?_ | refine blockK_o (by decide) ?_ | (refine Wp.condT ?_ ?_; focus (simp -implicitDefEqProofs [cx, cy, c5, hw, Ty.raw] <;> fail)) | (refine Wp.condF ?_ ?_; focus (simp -implicitDefEqProofs [cx, cy, c5, hw, Ty.raw] <;> fail)) | refine Wp.reg (by simp -implicitDefEqProofs [cx, cy, c5, hw, Ty.raw]; exact ⟨rfl, rfl⟩) ?_ | refine Wp.regA (by simp -implicitDefEqProofs [cx, cy, c5, hw, Ty.raw]; exact ⟨rfl, rfl⟩) (by rfl) ?_))
    (apply endK_r; (focus (simp -implicitDefEqProofs [Tryz.f14, Tm.raw, noTy]; try rfl)); (focus (intro g; simp -implicitDefEqProofs [Tryz.f14, Tm.raw, noTy])); exact ⟨_, rfl⟩)
  | fn a b =>
    simp only [Ty.size] at ht
    obtain ⟨g2, hg2⟩ : ∃ g2, g ++ [a] = g2 := ⟨_, rfl⟩
    obtain ⟨x, i3, hx⟩ : ∃ x i3, termP zs d b g2 i1 = (x, i3) := ⟨_, _, rfl⟩
    obtain ⟨⟨hi3, hxn⟩, cx⟩ := hcs b g2 i1 x i3 hx (by omega) (by rw [← hg2]; simp) (by rw [← hg2]; exact hg3 _ (by simp; omega)) hi1
    have c4 := longer1_c (E := E) (g' := g) (h := [a]) (by simp; omega)
    rw [hg2] at c4
    simp at c4
    have c5 := nodeT2_c (E := E) (k := 2) (m := a.raw.k) (us := a.raw.as) (l := [x.raw]) (by simp [Ty.raw_nodes]; omega) (by simp; omega) (by simp)
    simp at c5
    simp [tailP, hg2, hx] at hx0 hσ0
    subst hx0 hσ0
    (repeat (first | refine Wp.seq ?_ | refine Wp.block ?_ | refine Wp.skip ?_ | refine Wp.exit ?_ | refine Wp.ret ?_ | refine thenK_n ?_ | refine thenK_r ?_ | refine thenK_e ?_ | refine blockK_n ?_ | refine blockK_r ?_ | refine blockK_e ?_ | refine blockK_o (by decide) ?_ | (refine Wp.condT ?_ ?_; focus (simp -implicitDefEqProofs [cx, c4, c5, hw, Ty.raw] <;> fail)) | (refine Wp.condF ?_ ?_; focus (simp -implicitDefEqProofs [cx, c4, c5, hw, Ty.raw] <;> fail)) | refine Wp.reg (by simp -implicitDefEqProofs [cx, c4, c5, hw, Ty.raw]; exact ⟨rfl, rfl⟩) ?_ | refine Wp.regA (by simp -implicitDefEqProofs [cx, c4, c5, hw, Ty.raw]; exact ⟨rfl, rfl⟩) (by rfl) ?_))
    (apply endK_r; (focus (simp -implicitDefEqProofs [Tryz.f14, Tm.raw, noTy]; try rfl)); (focus (intro g; simp -implicitDefEqProofs [Tryz.f14, Tm.raw, noTy])); exact ⟨_, rfl⟩)
end M
end Go.Proofs.YthclcchnodjjpaaGreatDoor
