/- A part of the proof: RsO. -/
import Derived.Test.YthclcchnodjjpaaGreatDoorG16
/- THE MAKER OF MAJORANTS on terms. -/
set_option linter.unusedVariables false
set_option linter.unusedSimpArgs false
namespace Go.Proofs.YthclcchnodjjpaaGreatDoor
namespace M
open T (Ty Tm noTy)
theorem nodeM_err {e k : Int} {s : RT} {l : List RM} (he : e = 0 ∨ e = 4) : (nodeM e k s l).2 = 0 ∨ (nodeM e k s l).2 = 4 := by
  unfold nodeM
  split
  · exact he
  split
  · exact .inl rfl
  · exact .inr rfl
theorem callM_err : ∀ (l : List RM) {e : Int} {f : RM}, e = 0 ∨ e = 4 → (callM e f l).2 = 0 ∨ (callM e f l).2 = 4
  | [], e, f, he => he
  | a :: l, e, f, he => callM_err l (nodeM_err he)
theorem maxM_err : ∀ (s : Ty) {e : Int} {x y : RM}, e = 0 ∨ e = 4 → (maxM s e x y).2 = 0 ∨ (maxM s e x y).2 = 4
  | .nat, e, x, y, he => by
    simp only [maxM]; split
    · exact he
    · exact callM_err _ he
  | .list, e, x, y, he => by simp only [maxM]; split <;> exact he
  | .unit, e, x, y, he => by simp only [maxM]; split <;> exact he
  | .pair s u, e, x, y, he => by
    simp only [maxM]; split
    · exact he
    · exact nodeM_err (maxM_err u (nodeM_err (nodeM_err (maxM_err s (nodeM_err (nodeM_err he))))))
  | .fn s u, e, x, y, he => by
    simp only [maxM]; split
    · exact he
    · exact nodeM_err (maxM_err u (callM_err _ (callM_err _ he)))
theorem stepM_err {s : Ty} {e : Int} {x : RM} (he : e = 0 ∨ e = 4) : (stepM s e x).2 = 0 ∨ (stepM s e x).2 = 4 := nodeM_err (nodeM_err (maxM_err s he))
end M
namespace T
/-- The parts of a term. -/
def Tm.kids : Tm → List Tm
  | .lam _ b => [b]
  | .app f a => [f, a]
  | .succ a => [a]
  | .recn _ b f n => [b, f, n]
  | .cons h l => [h, l]
  | .fold _ b f l => [b, f, l]
  | .pair a b => [a, b]
  | .fst p => [p]
  | .snd p => [p]
  | _ => []
theorem Tm.raw_as (t : Tm) : t.raw.as = t.kids.map Tm.raw := by cases t <;> rfl
theorem Tm.kids_size {t a : Tm} (h : a ∈ t.kids) : a.size < t.size := by
  cases t <;> simp [Tm.kids] at h <;> simp only [Tm.size]
  case lam => subst h; omega
  case app => rcases h with rfl | rfl <;> omega
  case succ => subst h; omega
  case recn => rcases h with rfl | rfl | rfl <;> omega
  case cons => rcases h with rfl | rfl <;> omega
  case fold => rcases h with rfl | rfl | rfl <;> omega
  case pair => rcases h with rfl | rfl <;> omega
  case fst => subst h; omega
  case snd => subst h; omega
theorem Tm.kids_small {t a : Tm} (h : a ∈ t.kids) (hs : t.small = true) : a.small = true := by
  cases t <;> simp [Tm.kids] at h <;> simp [Tm.small] at hs <;> first
    | (subst h; first | exact hs | exact hs.2)
    | (rcases h with rfl | rfl <;> first | exact hs.1 | exact hs.2)
    | (rcases h with rfl | rfl | rfl <;> first | exact hs.1.1.2 | exact hs.1.2 | exact hs.2)
theorem Tm.kids_idx {t a : Tm} {b : Nat} (h : a ∈ t.kids) (hs : t.idx b = true) : a.idx b = true := by
  cases t <;> simp [Tm.kids] at h <;> simp [Tm.idx] at hs <;> first
    | (subst h; exact hs)
    | (rcases h with rfl | rfl <;> first | exact hs.1 | exact hs.2)
    | (rcases h with rfl | rfl | rfl <;> first | exact hs.1.1 | exact hs.1.2 | exact hs.2)
theorem Tm.kids_len (t : Tm) : t.kids.length ≤ 3 := by cases t <;> simp [Tm.kids]
/-- The type that a term names is small. -/
def Tm.tyN : Tm → Ty
  | .lam s _ => s
  | .recn s _ _ _ => s
  | .fold s _ _ _ => s
  | _ => .nat
theorem Tm.small_ty {t : Tm} (h : t.small = true) : t.tyN.size ≤ 64 := by
  cases t <;> simp [Tm.small] at h <;> simp only [Tm.tyN, Ty.size] <;> omega
end T
namespace M
open T (Ty Tm noTy)
/-- What is made of a term whose parts are made. -/
def combM : Tm → List RM → RM × Int
  | .var i, _ => (varM i, 0)
  | .nil, _ => (.mk 4 0 noTy [], 0)
  | .cons _ _, [x, y] => let z := nodeM 0 5 noTy [y]; maxM .nat z.2 x z.1
  | .lam s _, xs => nodeM 0 2 s.star.raw xs
  | .recn s _ _ _, [x, f, n] => let p := callM 0 (f.lift 2 0) [varM 1, varM 0]; let q := stepM s.star p.2 p.1; nodeM q.2 6 s.star.raw [x, q.1, n]
  | .fold s _ _ _, [x, f, n] => let p := callM 0 (f.lift 3 0) [varM 2, varM 2, varM 0]; let q := stepM s.star p.2 p.1; let r := nodeM q.2 6 s.star.raw [x.lift 1 0, q.1, varM 0]
      let m := nodeM r.2 2 Ty.nat.raw [r.1]; callM m.2 m.1 [n]
  | t, xs => nodeM 0 t.raw.k noTy xs
def allM (t : Tm) (l : List (RM × Int)) : RM × Int := if l.all (fun p => p.2 == 0) then combM t (l.map (·.1)) else (zeroM, 4)
/-- What is made of a term. -/
def ofM : Tm → RM × Int
  | .lam s b => allM (.lam s b) [ofM b]
  | .app f a => allM (.app f a) [ofM f, ofM a]
  | .succ a => allM (.succ a) [ofM a]
  | .recn s b f n => allM (.recn s b f n) [ofM b, ofM f, ofM n]
  | .cons h l => allM (.cons h l) [ofM h, ofM l]
  | .fold s b f l => allM (.fold s b f l) [ofM b, ofM f, ofM l]
  | .pair a b => allM (.pair a b) [ofM a, ofM b]
  | .fst p => allM (.fst p) [ofM p]
  | .snd p => allM (.snd p) [ofM p]
  | .var i => allM (.var i) []
  | .zero => allM .zero []
  | .nil => allM .nil []
  | .unit => allM .unit []
theorem ofM_eq (t : Tm) : ofM t = allM t (t.kids.map ofM) := by cases t <;> rfl
theorem combM_err (t : Tm) (l : List RM) : (combM t l).2 = 0 ∨ (combM t l).2 = 4 := by
  unfold combM
  split
  · exact .inl rfl
  · exact .inl rfl
  · exact maxM_err _ (nodeM_err (.inl rfl))
  · exact nodeM_err (.inl rfl)
  · exact nodeM_err (stepM_err (callM_err _ (.inl rfl)))
  · exact callM_err _ (nodeM_err (nodeM_err (stepM_err (callM_err _ (.inl rfl)))))
  · exact nodeM_err (.inl rfl)
theorem ofM_err (t : Tm) : (ofM t).2 = 0 ∨ (ofM t).2 = 4 := by
  rw [ofM_eq]
  unfold allM
  split
  · exact combM_err _ _
  · exact .inr rfl
theorem good_comb {t : Tm} {l : List RM} {b : Int} {n : Nat} (hb : 3 ≤ b) (hs : t.small = true) (hi : t.idx n = true) (hn : (n : Int) ≤ b) (hl : ∀ a ∈ l, a.good b) : (combM t l).1.good (b + 67) := by
  have g : ∀ {e k : Int} {s : RT} {m : List RM}, s.nodes ≤ 64 → (∀ a ∈ m, a.good (b + 67)) → (nodeM e k s m).1.good (b + 67) := fun h1 h2 => good_node (by omega) h1 h2
  have hl' : ∀ a ∈ l, a.good (b + 67) := fun a ha => (hl a ha).mono (by omega)
  unfold combM
  split
  · simp only [Tm.idx, decide_eq_true_eq] at hi
    exact good_var (by omega)
  · exact ⟨by simp [RM.tsm_mk, noTy_nodes], by simp [RM.idx_mk]; try omega, by simp [RM.count_mk]⟩
  · rename_i x y
    have hz : (nodeM 0 5 noTy [y]).1.good b := good_node (by omega) (by rw [noTy_nodes]; omega) (by intro z hz; simp at hz; subst hz; exact hl _ (by simp))
    exact (good_max .nat b _ x _ (by omega) (by simp [Ty.size]) (hl _ (by simp)) hz).mono (by simp only [Ty.size]; omega)
  · rename_i s _ _
    have := Tm.small_ty hs
    simp only [Tm.tyN] at this
    exact g (by rw [Ty.raw_nodes, Ty.star_size]; exact this) hl'
  · rename_i s _ _ _ x f n'
    have := Tm.small_ty hs
    simp only [Tm.tyN] at this
    have hf : (f.lift 2 0).good (b + 2) := (hl f (by simp)).lift (by omega) 0
    have hp : (callM 0 (f.lift 2 0) [varM 1, varM 0]).1.good (b + 2) := good_call (by omega) _ _ _ hf (by intro z hz; simp at hz; rcases hz with rfl | rfl <;> exact good_var (by omega))
    refine g (by rw [Ty.raw_nodes, Ty.star_size]; exact this) ?_
    intro z hz
    simp only [List.mem_cons, List.not_mem_nil, or_false] at hz
    rcases hz with rfl | rfl | rfl
    · exact hl' _ (by simp)
    · exact (good_step (by omega) (by rw [Ty.star_size]; exact this) hp).mono (by rw [Ty.star_size]; omega)
    · exact hl' _ (by simp)
  · rename_i s _ _ _ x f n'
    have := Tm.small_ty hs
    simp only [Tm.tyN] at this
    have hf : (f.lift 3 0).good (b + 3) := (hl f (by simp)).lift (by omega) 0
    have hp : (callM 0 (f.lift 3 0) [varM 2, varM 2, varM 0]).1.good (b + 3) := good_call (by omega) _ _ _ hf (by intro z hz; simp at hz; rcases hz with rfl | rfl <;> exact good_var (by omega))
    refine good_call (by omega) _ _ _ (g (by simp [Ty.raw, RT.nodes_mk]) ?_) (by intro z hz; simp at hz; subst hz; exact hl' _ (by simp))
    intro z hz
    simp only [List.mem_cons, List.not_mem_nil, or_false] at hz
    subst hz
    refine g (by rw [Ty.raw_nodes, Ty.star_size]; exact this) ?_
    intro z hz
    simp only [List.mem_cons, List.not_mem_nil, or_false] at hz
    rcases hz with rfl | rfl | rfl
    · exact ((hl x (by simp)).lift (n := 1) (by omega) 0).mono (by omega)
    · exact (good_step (by omega) (by rw [Ty.star_size]; exact this) hp).mono (by rw [Ty.star_size]; omega)
    · exact good_var (by omega)
  · exact g (by rw [noTy_nodes]; omega) hl'
theorem good_of (b : Nat) (hb : 3 ≤ b) : ∀ (n : Nat) (t : Tm), t.size ≤ n → t.small = true → t.idx b = true → (ofM t).1.good (b + 70 * t.size) := by
  intro n
  induction n with
  | zero => intro t ht; have := t.size_pos; omega
  | succ n ih =>
    intro t ht hs hi
    rw [ofM_eq]
    unfold allM
    split
    · have hp := t.size_pos
      refine (good_comb (b := b + 70 * t.size - 70) (n := b) (by omega) hs hi (by omega) ?_).mono (by omega)
      intro a ha
      simp only [List.map_map, List.mem_map, Function.comp] at ha
      obtain ⟨u, hu, rfl⟩ := ha
      have := Tm.kids_size hu
      exact (ih u (by omega) (Tm.kids_small hu hs) (Tm.kids_idx hu hi)).mono (by omega)
    · exact good_zero (by omega)
end M
end Go.Proofs.YthclcchnodjjpaaGreatDoor
