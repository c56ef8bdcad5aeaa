/- A part of the proof: RsK. -/
import Derived.Test.YthclcchnodjjpaaGreatDoorG10
/- THE MAKER OF MAJORANTS on raw terms: what it makes, up to what is too large. -/
set_option linter.unusedVariables false
set_option linter.unusedSimpArgs false
namespace Go.Proofs.YthclcchnodjjpaaGreatDoor
namespace M
open T (Ty Tm noTy)
mutual
/-- All types are small. -/
def RM.tsm : RM → Bool
  | .mk _ _ t l => decide (t.nodes ≤ 64) && RM.tsms l
def RM.tsms : List RM → Bool
  | [] => true
  | a :: l => a.tsm && RM.tsms l
end
theorem RM.tsm_mk (k i : Int) (t : RT) (l : List RM) : (RM.mk k i t l).tsm = (decide (t.nodes ≤ 64) && l.all RM.tsm) := by
  have : ∀ l, RM.tsms l = l.all RM.tsm := fun l => by induction l with | nil => rfl | cons a l ih => simp [RM.tsms, ih]
  rw [RM.tsm, this]
theorem RM.tsm_nodes (t : RM) : t.tsm = true → t.nodes ≤ 65 * t.count := by
  induction t using RM.ind with | h k i t l ih =>
  rw [RM.tsm_mk, RM.nodes_mk, RM.count_mk]
  simp only [Bool.and_eq_true, decide_eq_true_eq, List.all_eq_true]
  rintro ⟨h1, h2⟩
  have : (l.map RM.nodes).sum ≤ 65 * (l.map RM.count).sum := by
    clear h1
    induction l with
    | nil => simp
    | cons a l ihl =>
      simp only [List.map_cons, List.sum_cons]
      have g1 := ih a (by simp) (h2 a (by simp))
      have g2 := ihl (fun b hb => ih b (by simp [hb])) (fun b hb => h2 b (by simp [hb]))
      omega
  omega
theorem RM.tsm_lift (n : Int) (t : RM) : ∀ c, (t.lift n c).tsm = t.tsm := by
  induction t using RM.ind with | h k i t l ih =>
  intro c
  rw [RM.lift_mk]
  split
  · simp only [RM.tsm_mk]
  · simp only [RM.tsm_mk, List.all_map]
    congr 1
    rw [Bool.eq_iff_iff]
    simp only [List.all_eq_true, Function.comp]
    exact ⟨fun h a ha => by rw [← ih a ha]; exact h a ha, fun h a ha => by rw [ih a ha]; exact h a ha⟩
theorem RM.idx_lift {b n : Int} (hn : 0 ≤ n) (t : RM) : ∀ c, t.idx b = true → (t.lift n c).idx (b + n) = true := by
  induction t using RM.ind with | h k i t l ih =>
  intro c h
  rw [RM.idx_mk] at h
  simp only [Bool.and_eq_true, decide_eq_true_eq, List.all_eq_true] at h
  rw [RM.lift_mk]
  split
  · rw [RM.idx_mk]
    simp only [Bool.and_eq_true, decide_eq_true_eq, List.all_eq_true]
    exact ⟨by split <;> omega, fun a ha => RM.idx_mono (by omega) a (h.2 a ha)⟩
  · rw [RM.idx_mk]
    simp only [Bool.and_eq_true, decide_eq_true_eq, List.all_eq_true, List.all_map, Function.comp]
    exact ⟨by omega, fun a ha => ih a ha _ (h.2 a ha)⟩
/-- Fit for the maker: small types, indices up to b, not too large. -/
def RM.good (b : Int) (x : RM) : Prop := x.tsm = true ∧ x.idx b = true ∧ x.count ≤ 4096
theorem RM.good.nodes {b : Int} {x : RM} (h : x.good b) : x.nodes ≤ 270000 := by have := x.tsm_nodes h.1; have := h.2.2; omega
theorem RM.good.mono {b c : Int} {x : RM} (hbc : b ≤ c) (h : x.good b) : x.good c := ⟨h.1, RM.idx_mono hbc x h.2.1, h.2.2⟩
theorem RM.good.lift {b n : Int} {x : RM} (hn : 0 ≤ n) (c : Int) (h : x.good b) : (x.lift n c).good (b + n) := ⟨by rw [RM.tsm_lift]; exact h.1, RM.idx_lift hn x c h.2.1, by rw [RM.lift_count]; exact h.2.2⟩
def zeroM : RM := .mk 0 0 (.mk 0 []) []
theorem good_zero {b : Int} (hb : 0 ≤ b) : zeroM.good b := ⟨by simp [zeroM, RM.tsm_mk, RT.nodes_mk], by simp [zeroM, RM.idx_mk, hb], by simp [zeroM, RM.count_mk]⟩
def nodeM (e k : Int) (s : RT) (l : List RM) : RM × Int := if e ≠ 0 then (zeroM, e) else if (RM.mk k 0 s l).count ≤ 4096 then (.mk k 0 s l, 0) else (zeroM, 4)
theorem good_node {b e k : Int} {s : RT} {l : List RM} (hb : 0 ≤ b) (hs : s.nodes ≤ 64) (hl : ∀ a ∈ l, a.good b) : (nodeM e k s l).1.good b := by
  unfold nodeM
  split
  · exact good_zero hb
  split
  · rename_i h
    refine ⟨?_, ?_, h⟩
    · rw [RM.tsm_mk]; simp only [Bool.and_eq_true, decide_eq_true_eq, List.all_eq_true]; exact ⟨hs, fun a ha => (hl a ha).1⟩
    · rw [RM.idx_mk]; simp only [Bool.and_eq_true, decide_eq_true_eq, List.all_eq_true]; exact ⟨⟨by omega, hb⟩, fun a ha => (hl a ha).2.1⟩
  · exact good_zero hb
def callM (e : Int) (f : RM) (l : List RM) : RM × Int := l.foldl (fun p a => nodeM p.2 3 noTy [p.1, a]) (f, e)
theorem noTy_nodes : noTy.nodes = 1 := by simp [noTy, RT.nodes_mk]
theorem good_call {b : Int} (hb : 0 ≤ b) : ∀ (l : List RM) (e : Int) (f : RM), f.good b → (∀ a ∈ l, a.good b) → (callM e f l).1.good b
  | [], e, f, hf, _ => hf
  | a :: l, e, f, hf, hl => by
    have := good_call hb l (nodeM e 3 noTy [f, a]).2 (nodeM e 3 noTy [f, a]).1 (good_node hb (by rw [noTy_nodes]; omega) (by intro x hx; simp at hx; rcases hx with rfl | rfl; exact hf; exact hl _ (by simp))) (fun x hx => hl x (by simp [hx]))
    exact this
def varM (i : Int) : RM := .mk 1 i noTy []
theorem good_var {b i : Int} (h : 0 ≤ i ∧ i ≤ b) : (varM i).good b := ⟨by simp [varM, RM.tsm_mk, noTy_nodes], by simp [varM, RM.idx_mk, h], by simp [varM, RM.count_mk]⟩
def unitM : RM := .mk 13 0 noTy []
theorem good_unit {b : Int} (hb : 0 ≤ b) : unitM.good b := ⟨by simp [unitM, RM.tsm_mk, noTy_nodes], by simp [unitM, RM.idx_mk, hb], by simp [unitM, RM.count_mk]⟩
/-- The greater one of two terms. -/
def maxM : Ty → Int → RM → RM → RM × Int
  | .nat, e, a, b => if e ≠ 0 then (zeroM, e) else callM e T.greater.raw [a, b]
  | .pair s u, e, a, b => if e ≠ 0 then (zeroM, e) else
      let a1 := nodeM e 11 noTy [a]; let b1 := nodeM a1.2 11 noTy [b]; let x := maxM s b1.2 a1.1 b1.1
      let a2 := nodeM x.2 12 noTy [a]; let b2 := nodeM a2.2 12 noTy [b]; let y := maxM u b2.2 a2.1 b2.1
      nodeM y.2 10 noTy [x.1, y.1]
  | .fn s u, e, a, b => if e ≠ 0 then (zeroM, e) else
      let a1 := callM e (a.lift 1 0) [varM 0]; let b1 := callM a1.2 (b.lift 1 0) [varM 0]; let x := maxM u b1.2 a1.1 b1.1
      nodeM x.2 2 s.raw [x.1]
  | .list, e, a, b => if e ≠ 0 then (zeroM, e) else (unitM, e)
  | .unit, e, a, b => if e ≠ 0 then (zeroM, e) else (unitM, e)
theorem good_greater {b : Int} (hb : 1 ≤ b) : T.greater.raw.good b :=
  RM.good.mono hb ⟨by decide +kernel, by decide +kernel, by decide +kernel⟩
theorem good_max : ∀ (s : Ty) (b e : Int) (x y : RM), 1 ≤ b → s.size ≤ 64 → x.good b → y.good b → (maxM s e x y).1.good (b + s.size)
  | .nat, b, e, x, y, hb, hs, hx, hy => by
    simp only [maxM]
    split
    · exact good_zero (by omega)
    · exact RM.good.mono (by omega) (good_call (b := b) (by omega) _ _ _ (good_greater hb) (by intro z hz; simp at hz; rcases hz with rfl | rfl; exact hx; exact hy))
  | .list, b, e, x, y, hb, hs, hx, hy => by
    simp only [maxM]
    split
    · exact good_zero (by omega)
    · exact good_unit (by omega)
  | .unit, b, e, x, y, hb, hs, hx, hy => by
    simp only [maxM]
    split
    · exact good_zero (by omega)
    · exact good_unit (by omega)
  | .pair s u, b, e, x, y, hb, hs, hx, hy => by
    simp only [Ty.size] at hs
    simp only [maxM]
    split
    · exact good_zero (by simp only [Ty.size]; omega)
    · have hn : ∀ (e k : Int) (z : RM), z.good b → (nodeM e k noTy [z]).1.good b := fun e k z hz => good_node (by omega) (by rw [noTy_nodes]; omega) (by intro w hw; simp at hw; subst hw; exact hz)
      refine good_node (by simp only [Ty.size]; omega) (by rw [noTy_nodes]; omega) ?_
      intro w hw
      simp only [List.mem_cons, List.not_mem_nil, or_false] at hw
      rcases hw with rfl | rfl
      · exact RM.good.mono (by simp only [Ty.size]; omega) (good_max s b _ _ _ hb (by omega) (hn _ _ _ hx) (hn _ _ _ hy))
      · exact RM.good.mono (by simp only [Ty.size]; omega) (good_max u b _ _ _ hb (by omega) (hn _ _ _ hx) (hn _ _ _ hy))
  | .fn s u, b, e, x, y, hb, hs, hx, hy => by
    simp only [Ty.size] at hs
    simp only [maxM]
    split
    · exact good_zero (by simp only [Ty.size]; omega)
    · have hn : ∀ (e : Int) (z : RM), z.good b → (callM e (z.lift 1 0) [varM 0]).1.good (b + 1) := fun e z hz => good_call (by omega) _ _ _ (hz.lift (by omega) 0) (by intro w hw; simp at hw; subst hw; exact good_var (by omega))
      refine good_node (by simp only [Ty.size]; omega) (by rw [Ty.raw_nodes]; omega) ?_
      intro w hw
      simp only [List.mem_cons, List.not_mem_nil, or_false] at hw
      subst hw
      exact RM.good.mono (by simp only [Ty.size]; omega) (good_max u (b + 1) _ _ _ (by omega) (by omega) (hn _ _ hx) (hn _ _ hy))

/-- The step of a recursion whose results grow. -/
def stepM (s : Ty) (e : Int) (next : RM) : RM × Int :=
  let x := maxM s e (varM 0) next; let y := nodeM x.2 2 s.raw [x.1]; nodeM y.2 2 Ty.nat.raw [y.1]
theorem good_step {s : Ty} {b e : Int} {x : RM} (hb : 1 ≤ b) (hs : s.size ≤ 64) (hx : x.good b) : (stepM s e x).1.good (b + s.size) := by
  have h1 := good_max s b e (varM 0) x hb hs (good_var (by omega)) hx
  have h2 := fun e => good_node (b := b + s.size) (e := e) (k := 2) (s := s.raw) (l := [(maxM s e (varM 0) x).1]) (by omega) (by rw [Ty.raw_nodes]; omega)
  refine good_node (by omega) (by simp [Ty.raw, RT.nodes_mk]) ?_
  intro w hw
  simp only [List.mem_cons, List.not_mem_nil, or_false] at hw
  subst hw
  refine good_node (by omega) (by rw [Ty.raw_nodes]; omega) ?_
  intro w hw
  simp only [List.mem_cons, List.not_mem_nil, or_false] at hw
  subst hw
  exact h1
end M
end Go.Proofs.YthclcchnodjjpaaGreatDoor
