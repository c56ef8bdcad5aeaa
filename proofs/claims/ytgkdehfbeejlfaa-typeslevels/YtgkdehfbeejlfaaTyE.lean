/- types.Function. -/
import Derived.Test.YtgkdehfbeejlfaaTyD
set_option linter.unusedVariables false
set_option linter.unusedSimpArgs false
set_option maxRecDepth 10000
namespace Go.Proofs.Ytgkdehfbeejlfaa
namespace M
attribute [local irreducible] Wp thenK blockK endK
variable {E : Oracle}
open T (Ty Tm)
/-- The first error of some types. -/
def firstErr : List RT → Int
  | [] => 0
  | a :: l => if a.err ≠ 0 then a.err else firstErr l
theorem firstErr_app {l m : List RT} (h : firstErr l = 0) : firstErr (l ++ m) = firstErr m := by
  induction l with
  | nil => rfl
  | cons a l ih =>
    simp only [firstErr] at h
    split at h
    · rename_i hn; exact absurd h hn
    · rename_i hn; simp only [List.cons_append, firstErr, if_neg hn, ih h]
def totalNodes (l : List RT) : Nat := (l.map RT.nodes).sum
/-- The type of a function with checks, or the error. -/
def funR (l : List RT) (t : RT) : RT × Int :=
  if firstErr (l ++ [t]) ≠ 0 then (.mk 0 [], firstErr (l ++ [t]))
  else if totalNodes (l ++ [t]) + l.length > 64 then (.mk 0 [], 4) else (RT.fun l t, 0)
theorem RT.fun_nodes (l : List RT) (t : RT) : (RT.fun l t).nodes = totalNodes l + l.length + t.nodes := by
  induction l with
  | nil => simp [RT.fun, totalNodes]
  | cons a l ih =>
    have : (RT.fun (a :: l) t).nodes = 1 + (a.nodes + (RT.fun l t).nodes) := by simp [RT.fun, RT.nodes_mk]
    rw [this, ih]
    simp [totalNodes]
    omega
theorem typesFunction (l : List RT) (t : RT) (hb : totalNodes (l ++ [t]) ≤ 100000000) :
    den X E 10 [.sl (l.map RT.cells) .dead, t.enc] [] = some (.tup [(funR l t).1.enc, .int .i64 (funR l t).2], []) := by
  have hlen : (l ++ [t]).length ≤ totalNodes (l ++ [t]) := sum_len RT.nodes RT.nodes_pos _
  have hll : l.length + 1 ≤ 100000000 := by simp at hlen; omega
  obtain ⟨o1, tk1, a1, k1⟩ := can_apps (tk := []) (es := []) (o := .full) trivial (l.map RT.cells) 2 (by decide) (by simp) (by simp) (by simp; omega)
  obtain ⟨o2, tk2, a2, k2⟩ := can_app k1 2 (by decide) (by simp) (by simp; omega)
  simp only [List.nil_append] at a1 a2
  refine den_w0 (fn := Try.f10) (by rfl) (by rfl) (by kernel_rfl) rfl (by rfl) ?_
  simp -implicitDefEqProofs
  (repeat (first | refine Wp.seq ?_ | refine Wp.skip ?_ | refine Wp.exit ?_ | refine Wp.ret ?_ | refine thenK_n ?_ | refine thenK_r ?_ | refine thenK_e ?_ | refine blockK_n ?_ | refine blockK_r ?_ | refine blockK_e ?_ | refine blockK_o (by decide) ?_ | (refine Wp.condT ?_ ?_; focus (simp -implicitDefEqProofs [a1, a2, -append_full] <;> fail)) | (refine Wp.condF ?_ ?_; focus (simp -implicitDefEqProofs [a1, a2, -append_full] <;> fail)) | refine Wp.reg (by simp -implicitDefEqProofs [a1, a2, -append_full]; exact ⟨rfl, rfl⟩) ?_ | refine Wp.regA (by simp -implicitDefEqProofs [a1, a2, -append_full]; exact ⟨rfl, rfl⟩) (by rfl) ?_))
  refine Wp.block ?_
  refine Wp.loopF [5, 6, 8, 9, 10, 17, 18, 19, 20, 21, 22, 23, 24, 25, 26, 27, 28, 29, 30, 31, 32, 33] [] (fun n w c tk => ∃ done rest, l ++ [t] = done ++ rest ∧ n = rest.length ∧ w 17 = .int .i64 done.length ∧ w 6 = .int .i64 (totalNodes done) ∧ firstErr done = 0) (l.length + 1) ?_ ?_ ?_ ?_
  · rfl
  · rfl
  · exact ⟨[], l ++ [t], by simp, by simp, rfl, rfl, rfl⟩
  rintro n w c junk tk r σ ⟨done, rest, hd, rfl, h17, h6, he⟩ hr hσ
  simp -implicitDefEqProofs [h17, h6] at hr hσ
  subst hr hσ
  have hdl : done.length + rest.length = l.length + 1 := by have := congrArg List.length hd; simp at this; omega
  cases rest with
  | nil =>
    simp at hd
    subst hd
    have hlt : ¬ (l.length : Int) + 1 < l.length + 1 := by omega
    have hw : IntKind.i64.wrap ((totalNodes (l ++ [t]) : Int) + l.length) = totalNodes (l ++ [t]) + l.length := IntWalk.i64_in _ (by omega)
    by_cases hm : totalNodes (l ++ [t]) + l.length > 64
    · have hf : funR l t = (.mk 0 [], 4) := by simp [funR, he, hm]
      have hm' : (64 : Int) < totalNodes (l ++ [t]) + l.length := by omega
      (repeat (first | refine Wp.seq ?_ | refine Wp.block ?_ | refine Wp.skip ?_ | refine Wp.exit ?_ | refine Wp.ret ?_ | refine thenK_n ?_ | refine thenK_r ?_ | refine thenK_e ?_ | refine blockK_n ?_ | refine blockK_r ?_ | refine blockK_e ?_ | refine blockK_o (by decide) ?_ | (refine Wp.condT ?_ ?_; focus (simp -implicitDefEqProofs [hw, hm'] <;> fail)) | (refine Wp.condF ?_ ?_; focus (simp -implicitDefEqProofs [hw, hm'] <;> fail)) | refine Wp.reg (by simp -implicitDefEqProofs [hw, hm']; exact ⟨rfl, rfl⟩) ?_ | refine Wp.regA (by simp -implicitDefEqProofs [hw, hm']; exact ⟨rfl, rfl⟩) (by rfl) ?_))
      (apply endK_r; (focus (simp -implicitDefEqProofs [Try.f10, hf]; try rfl)); (focus (intro g; simp -implicitDefEqProofs [Try.f10, hf])); exact ⟨_, rfl⟩)
    · have hf : funR l t = (RT.fun l t, 0) := by simp [funR, he, hm]
      have hm' : ¬ (64 : Int) < totalNodes (l ++ [t]) + l.length := by omega
      have hn := RT.fun_nodes l t
      have c1 := treeFun_c (E := E) (k := t.k) (ts := t.as) (l := l) (by omega)
      have c2 := own_c (E := E) (k := (RT.fun l t).k) (ts := (RT.fun l t).as) (by simp [hn]; simp [totalNodes] at hm; simp [totalNodes]; omega)
      simp at c1 c2
      (repeat (first | refine Wp.seq ?_ | refine Wp.block ?_ | refine Wp.skip ?_ | refine Wp.exit ?_ | refine Wp.ret ?_ | refine thenK_n ?_ | refine thenK_r ?_ | refine thenK_e ?_ | refine blockK_n ?_ | refine blockK_r ?_ | refine blockK_e ?_ | refine blockK_o (by decide) ?_ | (refine Wp.condT ?_ ?_; focus (simp -implicitDefEqProofs [hw, hm', c1, c2] <;> fail)) | (refine Wp.condF ?_ ?_; focus (simp -implicitDefEqProofs [hw, hm', c1, c2] <;> fail)) | refine Wp.reg (by simp -implicitDefEqProofs [hw, hm', c1, c2]; exact ⟨rfl, rfl⟩) ?_ | refine Wp.regA (by simp -implicitDefEqProofs [hw, hm', c1, c2]; exact ⟨rfl, rfl⟩) (by rfl) ?_))
      (apply endK_r; (focus (simp -implicitDefEqProofs [Try.f10, hf]; try rfl)); (focus (intro g; simp -implicitDefEqProofs [Try.f10, hf])); exact ⟨_, rfl⟩)
  | cons a rest =>
    have ha : el (l ++ [t]) done.length = some a := by simp [hd]
    have ha' : el (l.map RT.cells ++ [t.cells]) done.length = some a.cells := by
      have := el_map RT.cells (l ++ [t]) done.length
      rw [ha] at this
      simpa using this
    simp at ha'
    have hlt : (done.length : Int) < l.length + 1 := by simp at hdl; omega
    have hmem : a ∈ l ++ [t] := by rw [hd]; simp
    have hna : a.nodes ≤ 1000000000 := by have := sum_mem RT.nodes hmem; unfold totalNodes at hb; omega
    have c1 := checkType_c (E := E) (k := a.k) (ts := a.as) (by simpa using hna)
    simp at c1
    have hw : IntKind.i64.wrap ((done.length : Int) + 1) = done.length + 1 := IntWalk.i64_in _ (by omega)
    by_cases hea : a.err = 0
    · have htot : totalNodes (l ++ [t]) = totalNodes done + a.nodes + totalNodes rest := by rw [hd]; simp [totalNodes]; omega
      have hw6 : IntKind.i64.wrap ((totalNodes done : Int) + a.nodes) = totalNodes done + a.nodes := IntWalk.i64_in _ (by omega)
      (repeat (first | refine Wp.seq ?_ | refine Wp.block ?_ | refine Wp.skip ?_ | refine Wp.exit ?_ | refine Wp.ret ?_ | refine thenK_n ?_ | refine thenK_r ?_ | refine thenK_e ?_ | refine blockK_n ?_ | refine blockK_r ?_ | refine blockK_e ?_ | refine blockK_o (by decide) ?_ | (refine Wp.condT ?_ ?_; focus (simp -implicitDefEqProofs [ha', hlt, c1, hea, hw, hw6] <;> fail)) | (refine Wp.condF ?_ ?_; focus (simp -implicitDefEqProofs [ha', hlt, c1, hea, hw, hw6] <;> fail)) | refine Wp.reg (by simp -implicitDefEqProofs [ha', hlt, c1, hea, hw, hw6]; exact ⟨rfl, rfl⟩) ?_ | refine Wp.regA (by simp -implicitDefEqProofs [ha', hlt, c1, hea, hw, hw6]; exact ⟨rfl, rfl⟩) (by rfl) ?_))
      refine ⟨by simp, ⟨_, by simp -implicitDefEqProofs; rfl⟩, rest.length, by simp, done ++ [a], rest, by simp [hd], rfl, by simp, by simp [totalNodes], by rw [firstErr_app he]; simp [firstErr, hea]⟩
    · have hf : funR l t = (.mk 0 [], a.err) := by
        have : firstErr (l ++ [t]) = a.err := by rw [hd, firstErr_app he]; simp [firstErr, hea]
        simp [funR, this, hea]
      (repeat (first | refine Wp.seq ?_ | refine Wp.block ?_ | refine Wp.skip ?_ | refine Wp.exit ?_ | refine Wp.ret ?_ | refine thenK_n ?_ | refine thenK_r ?_ | refine thenK_e ?_ | refine blockK_n ?_ | refine blockK_r ?_ | refine blockK_e ?_ | refine blockK_o (by decide) ?_ | (refine Wp.condT ?_ ?_; focus (simp -implicitDefEqProofs [ha', hlt, c1, hea, hw] <;> fail)) | (refine Wp.condF ?_ ?_; focus (simp -implicitDefEqProofs [ha', hlt, c1, hea, hw] <;> fail)) | refine Wp.reg (by simp -implicitDefEqProofs [ha', hlt, c1, hea, hw]; exact ⟨rfl, rfl⟩) ?_ | refine Wp.regA (by simp -implicitDefEqProofs [ha', hlt, c1, hea, hw]; exact ⟨rfl, rfl⟩) (by rfl) ?_))
      (apply endK_r; (focus (simp -implicitDefEqProofs [Try.f10, hf]; try rfl)); (focus (intro g; simp -implicitDefEqProofs [Try.f10, hf])); exact ⟨_, rfl⟩)
end M
end Go.Proofs.Ytgkdehfbeejlfaa
