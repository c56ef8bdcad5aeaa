/- A part of the proof: RsP, Th7, Th8, Rx. -/
import Derived.Test.YthclcchnodjjpaaGreatDoorG18
import Derived.Test.YthclcchnodjjpaaGreatDoorG02
/- THE MAKER OF MAJORANTS: where there is no error, it makes the majorant of the theory. -/
set_option linter.unusedVariables false
set_option linter.unusedSimpArgs false
namespace Go.Proofs.YthclcchnodjjpaaGreatDoor
namespace M
open T (Ty Tm noTy)
theorem nodeZ {e k : Int} {s : RT} {l : List RM} (h : (nodeM e k s l).2 = 0) : e = 0 ∧ (nodeM e k s l).1 = .mk k 0 s l ∧ (RM.mk k 0 s l).count ≤ 4096 := by
  unfold nodeM at h ⊢
  by_cases he : e = 0
  · subst he
    simp only [ne_eq, not_true_eq_false, if_false] at h ⊢
    by_cases hc : (RM.mk k 0 s l).count ≤ 4096
    · simp [hc]
    · simp [hc] at h
  · rw [if_pos he] at h
    exact absurd h he
theorem callZ : ∀ (l : List RM) {e : Int} {f : RM}, (callM e f l).2 = 0 → e = 0 ∧ (callM e f l).1 = l.foldl (fun f a => .mk 3 0 noTy [f, a]) f ∧ (l ≠ [] → (callM e f l).1.count ≤ 4096)
  | [], e, f, h => ⟨h, rfl, fun h => absurd rfl h⟩
  | a :: l, e, f, h => by
    have h' : (callM (nodeM e 3 noTy [f, a]).2 (nodeM e 3 noTy [f, a]).1 l).2 = 0 := h
    obtain ⟨h1, h2, h3⟩ := callZ l h'
    obtain ⟨g1, g2, g3⟩ := nodeZ h1
    have e1 : (callM e f (a :: l)).1 = (callM (nodeM e 3 noTy [f, a]).2 (nodeM e 3 noTy [f, a]).1 l).1 := rfl
    refine ⟨g1, ?_, fun _ => ?_⟩
    · rw [e1, h2, g2]; rfl
    · rw [e1]
      by_cases hl : l = []
      · subst hl
        show (nodeM e 3 noTy [f, a]).1.count ≤ 4096
        rw [g2]; exact g3
      · exact h3 hl
theorem varM_raw (i : Nat) : varM i = (Tm.var i).raw := rfl
theorem maxZ : ∀ (s : Ty) {e : Int} {a b : Tm}, (maxM s e a.raw b.raw).2 = 0 → e = 0 ∧ (maxM s e a.raw b.raw).1 = (T.mx s a b).raw ∧ (maxM s e a.raw b.raw).1.count ≤ 4096
  | .nat, e, a, b, h => by
    unfold maxM at h ⊢
    by_cases he : e = 0
    · subst he
      simp only [ne_eq, not_true_eq_false, if_false] at h ⊢
      obtain ⟨_, h2, h3⟩ := callZ _ h
      exact ⟨trivial, by rw [h2]; rfl, h3 (by simp)⟩
    · rw [if_pos he] at h; exact absurd h he
  | .list, e, a, b, h => by
    unfold maxM at h ⊢
    by_cases he : e = 0
    · subst he; exact ⟨rfl, rfl, by simp [unitM, RM.count_mk]⟩
    · rw [if_pos he] at h; exact absurd h he
  | .unit, e, a, b, h => by
    unfold maxM at h ⊢
    by_cases he : e = 0
    · subst he; exact ⟨rfl, rfl, by simp [unitM, RM.count_mk]⟩
    · rw [if_pos he] at h; exact absurd h he
  | .pair s u, e, a, b, h => by
    unfold maxM at h ⊢
    by_cases he : e = 0
    · subst he
      simp only [ne_eq, not_true_eq_false, if_false] at h ⊢
      obtain ⟨hy, h2, h3⟩ := nodeZ h
      have ha1 : ∀ e', (nodeM e' 11 noTy [a.raw]).2 = 0 → (nodeM e' 11 noTy [a.raw]).1 = (Tm.fst a).raw := fun e' h => (nodeZ h).2.1
      have hb1 : ∀ e', (nodeM e' 11 noTy [b.raw]).2 = 0 → (nodeM e' 11 noTy [b.raw]).1 = (Tm.fst b).raw := fun e' h => (nodeZ h).2.1
      have ha2 : ∀ e', (nodeM e' 12 noTy [a.raw]).2 = 0 → (nodeM e' 12 noTy [a.raw]).1 = (Tm.snd a).raw := fun e' h => (nodeZ h).2.1
      have hb2 : ∀ e', (nodeM e' 12 noTy [b.raw]).2 = 0 → (nodeM e' 12 noTy [b.raw]).1 = (Tm.snd b).raw := fun e' h => (nodeZ h).2.1
      have go : ∀ (w : Ty) (e' k : Int) (x y : RM) (x' y' : Tm), (∀ (e : Int) (a b : Tm), (maxM w e a.raw b.raw).2 = 0 → e = 0 ∧ (maxM w e a.raw b.raw).1 = (T.mx w a b).raw ∧ (maxM w e a.raw b.raw).1.count ≤ 4096) →
          ((nodeM e' k noTy [x]).2 = 0 → (nodeM e' k noTy [x]).1 = x'.raw) → ((nodeM (nodeM e' k noTy [x]).2 k noTy [y]).2 = 0 → (nodeM (nodeM e' k noTy [x]).2 k noTy [y]).1 = y'.raw) →
          ∀ r : RM × Int, (maxM w (nodeM (nodeM e' k noTy [x]).2 k noTy [y]).2 (nodeM e' k noTy [x]).1 (nodeM (nodeM e' k noTy [x]).2 k noTy [y]).1) = r → r.2 = 0 → (∀ e z z', (maxM w e z z').2 = 0 → e = 0) → e' = 0 ∧ r.1 = (T.mx w x' y').raw := by
        intro w e' k x y x' y' ih hx hy' r hr hz herr
        subst hr
        have z1 := herr _ _ _ hz
        have z2 := (nodeZ z1).1
        have z3 := (nodeZ z2).1
        rw [hx z2, hy' z1] at hz ⊢
        exact ⟨z3, (ih _ _ _ hz).2.1⟩
      have herr : ∀ (w : Ty) e z z', (maxM w e z z').2 = 0 → e = 0 := by
        intro w e z z' h
        by_cases he : e = 0
        · exact he
        · exfalso
          cases w <;> (unfold maxM at h; rw [if_pos he] at h; exact he h)
      obtain ⟨e1, r1⟩ := go u _ 12 _ _ (.snd a) (.snd b) (fun e a b h => maxZ u h) (ha2 _) (hb2 _) _ rfl hy (herr u)
      obtain ⟨e2, r2⟩ := go s 0 11 _ _ (.fst a) (.fst b) (fun e a b h => maxZ s h) (ha1 _) (hb1 _) _ rfl e1 (herr s)
      refine ⟨trivial, ?_, by rw [h2]; exact h3⟩
      rw [h2, r1, r2]
      rfl
    · rw [if_pos he] at h; exact absurd h he
  | .fn s u, e, a, b, h => by
    unfold maxM at h ⊢
    by_cases he : e = 0
    · subst he
      simp only [ne_eq, not_true_eq_false, if_false] at h ⊢
      obtain ⟨hy, h2, h3⟩ := nodeZ h
      have herr : ∀ (w : Ty) e z z', (maxM w e z z').2 = 0 → e = 0 := by
        intro w e z z' h
        by_cases he : e = 0
        · exact he
        · exfalso
          cases w <;> (unfold maxM at h; rw [if_pos he] at h; exact he h)
      have z1 := herr _ _ _ _ hy
      obtain ⟨z2, q1, _⟩ := callZ _ z1
      obtain ⟨z3, q2, _⟩ := callZ _ z2
      have ea : (a.raw.lift 1 0) = (a.lift 1 0).raw := (Tm.raw_lift 1 a 0).symm
      have eb : (b.raw.lift 1 0) = (b.lift 1 0).raw := (Tm.raw_lift 1 b 0).symm
      have q1' : (callM (callM 0 (a.raw.lift 1 0) [varM 0]).2 (b.raw.lift 1 0) [varM 0]).1 = (Tm.app (b.lift 1 0) (.var 0)).raw := by rw [q1, eb]; rfl
      have q2' : (callM 0 (a.raw.lift 1 0) [varM 0]).1 = (Tm.app (a.lift 1 0) (.var 0)).raw := by rw [q2, ea]; rfl
      rw [q1', q2'] at hy
      have := (maxZ u hy).2.1
      refine ⟨trivial, ?_, by rw [h2]; exact h3⟩
      rw [h2, q1', q2', this]
      rfl
    · rw [if_pos he] at h; exact absurd h he
theorem stepZ {s : Ty} {e : Int} {x : Tm} (h : (stepM s e x.raw).2 = 0) : e = 0 ∧ (stepM s e x.raw).1 = (Tm.lam .nat (.lam s (T.mx s (.var 0) x))).raw := by
  unfold stepM at h ⊢
  simp only at h ⊢
  obtain ⟨h1, h2, _⟩ := nodeZ h
  obtain ⟨g1, g2, _⟩ := nodeZ h1
  have e0 : varM 0 = (Tm.var 0).raw := rfl
  rw [e0] at g1
  obtain ⟨k1, k2, _⟩ := maxZ s g1
  refine ⟨k1, ?_⟩
  rw [h2, g2, e0, k2]
  rfl
theorem allZ {t : Tm} {l : List (RM × Int)} (h : (allM t l).2 = 0) : (∀ p ∈ l, p.2 = 0) ∧ (combM t (l.map (·.1))).2 = 0 ∧ (allM t l).1 = (combM t (l.map (·.1))).1 := by
  unfold allM at h ⊢
  by_cases hl : l.all (fun p => p.2 == 0) = true
  · rw [if_pos hl] at h ⊢
    exact ⟨fun p hp => by simpa using List.all_eq_true.1 hl p hp, h, rfl⟩
  · rw [if_neg hl] at h
    simp at h
/-- Where there is no error, the majorant is made. -/
theorem ofM_zero (t : Tm) : (ofM t).2 = 0 → (ofM t).1 = t.star.raw ∧ t.star.size ≤ 4096 := by
  suffices h : (ofM t).2 = 0 → (ofM t).1 = t.star.raw ∧ (ofM t).1.count ≤ 4096 by
    intro h0
    have := h h0
    refine ⟨this.1, ?_⟩
    rw [← Tm.raw_count, ← this.1]
    exact this.2
  induction t with
  | var i => intro h; exact ⟨rfl, by simp [ofM, allM, combM, varM, RM.count_mk]⟩
  | zero => intro h; exact ⟨rfl, by decide⟩
  | nil => intro h; exact ⟨rfl, by decide⟩
  | unit => intro h; exact ⟨rfl, by decide⟩
  | lam s b ih =>
    intro h
    rw [show ofM (.lam s b) = allM (.lam s b) [ofM b] from rfl] at h ⊢
    obtain ⟨hp, hc, e⟩ := allZ h
    obtain ⟨r1, _⟩ := ih (hp _ (by simp))
    obtain ⟨_, q2, q3⟩ := nodeZ hc
    rw [e]
    simp only [List.map_cons, List.map_nil, r1] at q2 q3 ⊢
    exact ⟨q2, by rw [show (combM (.lam s b) [b.star.raw]).1 = _ from q2]; exact q3⟩
  | app f a ih1 ih2 =>
    intro h
    rw [show ofM (.app f a) = allM (.app f a) [ofM f, ofM a] from rfl] at h ⊢
    obtain ⟨hp, hc, e⟩ := allZ h
    obtain ⟨r1, _⟩ := ih1 (hp _ (by simp))
    obtain ⟨r2, _⟩ := ih2 (hp _ (by simp))
    obtain ⟨_, q2, q3⟩ := nodeZ hc
    rw [e]
    simp only [List.map_cons, List.map_nil, r1, r2] at q2 q3 ⊢
    exact ⟨q2, by rw [show (combM (.app f a) [f.star.raw, a.star.raw]).1 = _ from q2]; exact q3⟩
  | pair f a ih1 ih2 =>
    intro h
    rw [show ofM (.pair f a) = allM (.pair f a) [ofM f, ofM a] from rfl] at h ⊢
    obtain ⟨hp, hc, e⟩ := allZ h
    obtain ⟨r1, _⟩ := ih1 (hp _ (by simp))
    obtain ⟨r2, _⟩ := ih2 (hp _ (by simp))
    obtain ⟨_, q2, q3⟩ := nodeZ hc
    rw [e]
    simp only [List.map_cons, List.map_nil, r1, r2] at q2 q3 ⊢
    exact ⟨q2, by rw [show (combM (.pair f a) [f.star.raw, a.star.raw]).1 = _ from q2]; exact q3⟩
  | succ b ih =>
    intro h
    rw [show ofM (.succ b) = allM (.succ b) [ofM b] from rfl] at h ⊢
    obtain ⟨hp, hc, e⟩ := allZ h
    obtain ⟨r1, _⟩ := ih (hp _ (by simp))
    obtain ⟨_, q2, q3⟩ := nodeZ hc
    rw [e]
    simp only [List.map_cons, List.map_nil, r1] at q2 q3 ⊢
    exact ⟨q2, by rw [show (combM (.succ b) [b.star.raw]).1 = _ from q2]; exact q3⟩
  | fst b ih =>
    intro h
    rw [show ofM (.fst b) = allM (.fst b) [ofM b] from rfl] at h ⊢
    obtain ⟨hp, hc, e⟩ := allZ h
    obtain ⟨r1, _⟩ := ih (hp _ (by simp))
    obtain ⟨_, q2, q3⟩ := nodeZ hc
    rw [e]
    simp only [List.map_cons, List.map_nil, r1] at q2 q3 ⊢
    exact ⟨q2, by rw [show (combM (.fst b) [b.star.raw]).1 = _ from q2]; exact q3⟩
  | snd b ih =>
    intro h
    rw [show ofM (.snd b) = allM (.snd b) [ofM b] from rfl] at h ⊢
    obtain ⟨hp, hc, e⟩ := allZ h
    obtain ⟨r1, _⟩ := ih (hp _ (by simp))
    obtain ⟨_, q2, q3⟩ := nodeZ hc
    rw [e]
    simp only [List.map_cons, List.map_nil, r1] at q2 q3 ⊢
    exact ⟨q2, by rw [show (combM (.snd b) [b.star.raw]).1 = _ from q2]; exact q3⟩
  | cons f a ih1 ih2 =>
    intro h
    rw [show ofM (.cons f a) = allM (.cons f a) [ofM f, ofM a] from rfl] at h ⊢
    obtain ⟨hp, hc, e⟩ := allZ h
    obtain ⟨r1, _⟩ := ih1 (hp _ (by simp))
    obtain ⟨r2, _⟩ := ih2 (hp _ (by simp))
    rw [e]
    simp only [List.map_cons, List.map_nil, r1, r2, combM] at hc ⊢
    have herr : ∀ e z z', (maxM .nat e z z').2 = 0 → e = 0 := by
      intro e z z' h
      by_cases he : e = 0
      · exact he
      · exfalso
        unfold maxM at h; rw [if_pos he] at h; exact he h
    obtain ⟨_, q2, _⟩ := nodeZ (herr _ _ _ hc)
    have q2' : (nodeM 0 5 noTy [a.star.raw]).1 = (Tm.succ a.star).raw := q2
    rw [q2'] at hc ⊢
    obtain ⟨_, g2, g3⟩ := maxZ .nat hc
    exact ⟨g2, g3⟩
  | recn s b f n ih1 ih2 ih3 =>
    intro h
    rw [show ofM (.recn s b f n) = allM (.recn s b f n) [ofM b, ofM f, ofM n] from rfl] at h ⊢
    obtain ⟨hp, hc, e⟩ := allZ h
    obtain ⟨r1, _⟩ := ih1 (hp _ (by simp))
    obtain ⟨r2, _⟩ := ih2 (hp _ (by simp))
    obtain ⟨r3, _⟩ := ih3 (hp _ (by simp))
    rw [e]
    simp only [List.map_cons, List.map_nil, r1, r2, r3, combM] at hc ⊢
    obtain ⟨z1, q1, q2⟩ := nodeZ hc
    have herr : ∀ x : RM, (stepM s.star (callM 0 (f.star.raw.lift 2 0) [varM 1, varM 0]).2 x).2 = 0 → (callM 0 (f.star.raw.lift 2 0) [varM 1, varM 0]).2 = 0 := by
      intro x h
      rcases callM_err [varM 1, varM 0] (e := 0) (f := f.star.raw.lift 2 0) (.inl rfl) with h4 | h4
      · exact h4
      · rw [h4] at h
        unfold stepM nodeM at h
        have : (maxM s.star 4 (varM 0) x).2 = 4 := by cases s.star <;> simp [maxM]
        simp [this] at h
    obtain ⟨_, c1, _⟩ := callZ _ (herr _ z1)
    have c2 : (callM 0 (f.star.raw.lift 2 0) [varM 1, varM 0]).1 = (Tm.app (.app (f.star.lift 2 0) (.var 1)) (.var 0)).raw := by
      rw [c1, show f.star.raw.lift 2 0 = (f.star.lift 2 0).raw from (Tm.raw_lift 2 f.star 0).symm]
      rfl
    rw [c2] at z1
    obtain ⟨_, s2⟩ := stepZ z1
    refine ⟨?_, by rw [q1]; exact q2⟩
    rw [q1, c2, s2]
    rfl
  | fold s b f n ih1 ih2 ih3 =>
    intro h
    rw [show ofM (.fold s b f n) = allM (.fold s b f n) [ofM b, ofM f, ofM n] from rfl] at h ⊢
    obtain ⟨hp, hc, e⟩ := allZ h
    obtain ⟨r1, _⟩ := ih1 (hp _ (by simp))
    obtain ⟨r2, _⟩ := ih2 (hp _ (by simp))
    obtain ⟨r3, _⟩ := ih3 (hp _ (by simp))
    rw [e]
    simp only [List.map_cons, List.map_nil, r1, r2, r3, combM] at hc ⊢
    obtain ⟨z0, p1, p2⟩ := callZ _ hc
    obtain ⟨z0', p3, _⟩ := nodeZ z0
    obtain ⟨z1, q1, q2⟩ := nodeZ z0'
    have herr : ∀ x : RM, (stepM s.star (callM 0 (f.star.raw.lift 3 0) [varM 2, varM 2, varM 0]).2 x).2 = 0 → (callM 0 (f.star.raw.lift 3 0) [varM 2, varM 2, varM 0]).2 = 0 := by
      intro x h
      rcases callM_err [varM 2, varM 2, varM 0] (e := 0) (f := f.star.raw.lift 3 0) (.inl rfl) with h4 | h4
      · exact h4
      · rw [h4] at h
        unfold stepM nodeM at h
        have : (maxM s.star 4 (varM 0) x).2 = 4 := by cases s.star <;> simp [maxM]
        simp [this] at h
    obtain ⟨_, c1, _⟩ := callZ _ (herr _ z1)
    have c2 : (callM 0 (f.star.raw.lift 3 0) [varM 2, varM 2, varM 0]).1 = (Tm.app (.app (.app (f.star.lift 3 0) (.var 2)) (.var 2)) (.var 0)).raw := by
      rw [c1, show f.star.raw.lift 3 0 = (f.star.lift 3 0).raw from (Tm.raw_lift 3 f.star 0).symm]
      rfl
    rw [c2] at z1
    obtain ⟨_, s2⟩ := stepZ z1
    refine ⟨?_, p2 (by simp)⟩
    rw [p1, p3, q1, c2, s2, show b.star.raw.lift 1 0 = (b.star.lift 1 0).raw from (Tm.raw_lift 1 b.star 0).symm]
    rfl
end M
namespace T
open M
theorem mx_small : ∀ (s : Ty) (a b : Tm), s.size ≤ 64 → a.small = true → b.small = true → (mx s a b).small = true
  | .nat, a, b, hs, ha, hb => by simp [mx, Tm.small, ha, hb]; decide
  | .list, a, b, _, _, _ => rfl
  | .unit, a, b, _, _, _ => rfl
  | .pair s u, a, b, hs, ha, hb => by
    simp only [Ty.size] at hs
    simp only [mx, Tm.small, Bool.and_eq_true]
    exact ⟨mx_small s _ _ (by omega) ha hb, mx_small u _ _ (by omega) ha hb⟩
  | .fn s u, a, b, hs, ha, hb => by
    simp only [Ty.size] at hs
    simp only [mx, Tm.small, Bool.and_eq_true, decide_eq_true_eq]
    exact ⟨by omega, mx_small u _ _ (by omega) (by simp [Tm.small, Tm.small_lift, ha]) (by simp [Tm.small, Tm.small_lift, hb])⟩
theorem Tm.star_small (t : Tm) : t.small = true → t.star.small = true := by
  induction t with
  | lam s b ih => intro h; simp only [Tm.small, Bool.and_eq_true, decide_eq_true_eq] at h; simp [Tm.star, Tm.small, Ty.star_size, h.1, ih h.2]
  | recn s b f n ih1 ih2 ih3 =>
    intro h
    simp only [Tm.small, Bool.and_eq_true, decide_eq_true_eq] at h
    have hm := mx_small s.star (.var 0) (.app (.app (f.star.lift 2 0) (.var 1)) (.var 0)) (by rw [Ty.star_size]; exact h.1.1.1) rfl (by simp [Tm.small, Tm.small_lift, ih2 h.1.2])
    simp [Tm.star, Tm.small, Ty.star_size, Ty.size, h.1.1.1, ih1 h.1.1.2, ih3 h.2, hm]
  | fold s b f n ih1 ih2 ih3 =>
    intro h
    simp only [Tm.small, Bool.and_eq_true, decide_eq_true_eq] at h
    have hm := mx_small s.star (.var 0) (.app (.app (.app (f.star.lift 3 0) (.var 2)) (.var 2)) (.var 0)) (by rw [Ty.star_size]; exact h.1.1.1) rfl (by simp [Tm.small, Tm.small_lift, ih2 h.1.2])
    simp [Tm.star, Tm.small, Tm.small_lift, Ty.star_size, Ty.size, h.1.1.1, ih1 h.1.1.2, ih3 h.2, hm]
  | cons a b ih1 ih2 => intro h; simp only [Tm.small, Bool.and_eq_true] at h; exact mx_small .nat _ _ (by decide) (ih1 h.1) (by simpa [Tm.small] using ih2 h.2)
  | app a b ih1 ih2 => intro h; simp only [Tm.small, Bool.and_eq_true] at h; simp [Tm.star, Tm.small, ih1 h.1, ih2 h.2]
  | pair a b ih1 ih2 => intro h; simp only [Tm.small, Bool.and_eq_true] at h; simp [Tm.star, Tm.small, ih1 h.1, ih2 h.2]
  | succ a ih => exact ih
  | fst a ih => exact ih
  | snd a ih => exact ih
  | _ => intro _; rfl
theorem Look.lt {g : List Ty} {i : Nat} {s : Ty} {p : Env g → s.den} (h : Look g i s p) : i < g.length := by
  induction h with
  | here => simp
  | there _ ih => simp only [List.length_cons]; omega
/-- No variable of a typed term is great. -/
theorem Sem.idx {g : List Ty} {t : Tm} {s : Ty} {d : Env g → s.den} (h : Sem g t s d) : t.idx (g.length + t.size) = true := by
  have up : ∀ {t : Tm} {b c : Nat}, b ≤ c → t.idx b = true → t.idx c = true := fun h => Tm.idx_mono h _
  induction h with
  | var hl => have := hl.lt; simp only [Tm.idx, decide_eq_true_eq]; omega
  | lam _ ih => simp only [Tm.idx, Tm.size]; simp only [List.length_cons] at ih; exact up (by omega) ih
  | app _ _ ih1 ih2 => simp only [Tm.idx, Tm.size, Bool.and_eq_true]; exact ⟨up (by omega) ih1, up (by omega) ih2⟩
  | zero => rfl
  | succ _ ih => simp only [Tm.idx, Tm.size]; exact up (by omega) ih
  | recn _ _ _ ih1 ih2 ih3 => simp only [Tm.idx, Tm.size, Bool.and_eq_true]; exact ⟨⟨up (by omega) ih1, up (by omega) ih2⟩, up (by omega) ih3⟩
  | nil => rfl
  | cons _ _ ih1 ih2 => simp only [Tm.idx, Tm.size, Bool.and_eq_true]; exact ⟨up (by omega) ih1, up (by omega) ih2⟩
  | fold _ _ _ ih1 ih2 ih3 => simp only [Tm.idx, Tm.size, Bool.and_eq_true]; exact ⟨⟨up (by omega) ih1, up (by omega) ih2⟩, up (by omega) ih3⟩
  | pair _ _ ih1 ih2 => simp only [Tm.idx, Tm.size, Bool.and_eq_true]; exact ⟨up (by omega) ih1, up (by omega) ih2⟩
  | fst _ ih => simp only [Tm.idx, Tm.size]; exact up (by omega) ih
  | snd _ ih => simp only [Tm.idx, Tm.size]; exact up (by omega) ih
  | unit => rfl
end T
end Go.Proofs.YthclcchnodjjpaaGreatDoor
/- PURE THEORY 7: the machine with a limit of work, as a function; that it is evaluation (Ev), with typed and bounded values. -/
set_option linter.unusedVariables false
set_option linter.unusedSimpArgs false
namespace Go.Proofs.YthclcchnodjjpaaGreatDoor
namespace T

/-- What an evaluation returns: a value, the work so far, whether the limit was met. -/
abbrev Ans := V × Nat × Bool
abbrev Eval := Nat → List V → Tm → Ans
def evArgs (ev : Nat → Tm → Ans) : Nat → List Tm → List V × Nat × Bool
  | u, [] => ([], u, false)
  | u, a :: l => if (ev u a).2.2 then ([], (ev u a).2.1, true) else ((ev u a).1 :: (evArgs ev (ev u a).2.1 l).1, (evArgs ev (ev u a).2.1 l).2)
def callV (ev : Eval) (u : Nat) : V → V → Ans
  | .clo b e, a => ev u (a :: e) b
  | _, _ => (.unit, u, false)
def roundR (call : Nat → V → V → Ans) (f : V) (m : Nat) (p : Ans) : Ans :=
  if p.2.2 then p else if (call p.2.1 f (.num m)).2.2 then (p.1, (call p.2.1 f (.num m)).2.1, true) else call (call p.2.1 f (.num m)).2.1 (call p.2.1 f (.num m)).1 p.1
def recU (call : Nat → V → V → Ans) (f r : V) (u : Nat) : Nat → Ans
  | 0 => (r, u, false)
  | m + 1 => roundR call f m (recU call f r u m)
def roundF (call : Nat → V → V → Ans) (f : V) (h : Nat) (t : List Nat) (p : Ans) : Ans :=
  if p.2.2 then p else if (call p.2.1 f (.num h)).2.2 then (p.1, (call p.2.1 f (.num h)).2.1, true)
  else if (call (call p.2.1 f (.num h)).2.1 (call p.2.1 f (.num h)).1 (.list t)).2.2 then (p.1, (call (call p.2.1 f (.num h)).2.1 (call p.2.1 f (.num h)).1 (.list t)).2.1, true)
  else call (call (call p.2.1 f (.num h)).2.1 (call p.2.1 f (.num h)).1 (.list t)).2.1 (call (call p.2.1 f (.num h)).2.1 (call p.2.1 f (.num h)).1 (.list t)).1 p.1
def foldU (call : Nat → V → V → Ans) (f r : V) (u : Nat) : List Nat → Ans
  | [] => (r, u, false)
  | h :: t => roundF call f h t (foldU call f r u t)
/-- What becomes of the values of the parts. -/
def combV (ev : Eval) (u : Nat) : Tm → List V → Ans
  | .app _ _, [f, a] => callV ev u f a
  | .zero, _ => (.num 0, u, false)
  | .succ _, [.num k] => (.num (k + 1), u, false)
  | .recn _ _ _ _, [b, f, .num k] => recU (callV ev) f b u k
  | .nil, _ => (.list [], u, false)
  | .cons _ _, [.num h, .list l] => (.list (h :: l), u, false)
  | .fold _ _ _ _, [b, f, .list l] => foldU (callV ev) f b u l
  | .pair _ _, [a, b] => (.pair a b, u, false)
  | .fst _, [.pair a _] => (a, u, false)
  | .snd _, [.pair _ b] => (b, u, false)
  | _, _ => (.unit, u, false)
def evStep (M : Nat) (ev : Eval) : Eval := fun u e t => if u = M then (.unit, u, true) else match t with
  | .var i => (e.getD i .unit, u + 1, false)
  | .lam _ b => (.clo b e, u + 1, false)
  | t => if (evArgs (fun u a => ev u e a) (u + 1) t.kids).2.2 then (.unit, (evArgs (fun u a => ev u e a) (u + 1) t.kids).2.1, true)
    else combV ev (evArgs (fun u a => ev u e a) (u + 1) t.kids).2.1 t (evArgs (fun u a => ev u e a) (u + 1) t.kids).1
/-- The machine: at most M units of work, n more than what is left of them. -/
def evM (M : Nat) : Nat → Eval
  | 0 => fun u _ _ => (.unit, u, true)
  | n + 1 => evStep M (evM M n)

/-! ### Typed values, bounded values -/
inductive VT : Ty → V → Prop where
  | num (n : Nat) : VT .nat (.num n)
  | list (l : List Nat) : VT .list (.list l)
  | unit : VT .unit .unit
  | pair {s u : Ty} {a b : V} : VT s a → VT u b → VT (.pair s u) (.pair a b)
  | clo {g : List Ty} {s u : Ty} {b : Tm} {d : Env (s :: g) → u.den} {e : List V} : Sem (s :: g) b u d → e.length = g.length → (∀ (i : Nat) (w : Ty) (v : V), g[i]? = some w → e[i]? = some v → VT w v) → VT (.fn s u) (.clo b e)
def ET (g : List Ty) (e : List V) : Prop := e.length = g.length ∧ ∀ (i : Nat) (w : Ty) (v : V), g[i]? = some w → e[i]? = some v → VT w v
inductive VB (C : Nat) : V → Prop where
  | num {n : Nat} : n ≤ C → VB C (.num n)
  | list {l : List Nat} : l.length ≤ C → (∀ x ∈ l, x ≤ C) → VB C (.list l)
  | unit : VB C .unit
  | pair {a b : V} : VB C a → VB C b → VB C (.pair a b)
  | clo {b : Tm} {e : List V} : e.length < C → (∀ v ∈ e, VB C v) → VB C (.clo b e)
def EB (C : Nat) (e : List V) : Prop := e.length ≤ C ∧ ∀ v ∈ e, VB C v
theorem VB.mono {C D : Nat} (h : C ≤ D) {v : V} (hv : VB C v) : VB D v := by
  induction hv with
  | num h1 => exact .num (by omega)
  | list h1 h2 => exact .list (by omega) (fun x hx => by have := h2 x hx; omega)
  | unit => exact .unit
  | pair _ _ ih1 ih2 => exact .pair ih1 ih2
  | clo h1 _ ih => exact .clo (by omega) ih
theorem EB.mono {C D : Nat} (h : C ≤ D) {e : List V} (he : EB C e) : EB D e := ⟨by have := he.1; omega, fun v hv => (he.2 v hv).mono h⟩
theorem EB.nil (C : Nat) : EB C [] := ⟨by simp, by simp⟩
theorem ET.nil : ET [] [] := ⟨rfl, fun i w v h _ => by simp at h⟩
theorem ET.cons {g : List Ty} {e : List V} {s : Ty} {v : V} (h : VT s v) (he : ET g e) : ET (s :: g) (v :: e) := by
  refine ⟨by simp [he.1], fun i w x h1 h2 => ?_⟩
  cases i with
  | zero => simp at h1 h2; subst h1 h2; exact h
  | succ i => simp at h1 h2; exact he.2 i w x h1 h2
theorem ET.get {g : List Ty} {e : List V} (he : ET g e) {i : Nat} {w : Ty} (h : g[i]? = some w) : ∃ v, e[i]? = some v ∧ VT w v := by
  have hi : i < e.length := by rw [he.1]; exact (List.getElem?_eq_some_iff.1 h).1
  exact ⟨e[i], List.getElem?_eq_getElem hi, he.2 i w _ h (List.getElem?_eq_getElem hi)⟩

/-- A right answer: values were bounded by C ahead. -/
def Okr (C M u : Nat) (s : Ty) (j : Job) (r : Ans) : Prop := u ≤ r.2.1 ∧ r.2.1 ≤ M ∧ (r.2.2 = false → VT s r.1 ∧ ∃ m k, Ev j r.1 m k ∧ r.2.1 = u + m ∧ VB (C + m) r.1)
/-- An evaluation that answers right from some work on. -/
def Fine (M n : Nat) (ev : Eval) : Prop := ∀ (C u : Nat) (e : List V) (t : Tm) (g : List Ty) (s : Ty) (d : Env g → s.den), Sem g t s d → ET g e → EB C e → u ≤ M → M - u < n → Okr C M u s (.tm e t) (ev u e t)

/-- One call of a function. -/
theorem Fine.call {M n : Nat} {ev : Eval} (H : Fine M n ev) {C u : Nat} {s w : Ty} {f a : V} (hf : VT (.fn s w) f) (hfb : VB C f) (ha : VT s a) (hab : VB C a) (hu : u ≤ M) (hn : M - u < n) :
    ∃ b e, f = .clo b e ∧ Okr C M u w (.tm (a :: e) b) (callV ev u f a) := by
  cases hf with
  | clo hs hl he =>
    cases hfb with
    | clo h1 h2 =>
      refine ⟨_, _, rfl, H C u _ _ _ _ _ hs (ET.cons ha ⟨hl, he⟩) ⟨by simp only [List.length_cons]; omega, fun v hv => ?_⟩ hu hn⟩
      rcases List.mem_cons.1 hv with rfl | hv
      · exact hab
      · exact h2 v hv

theorem Fine.rec {M n : Nat} {ev : Eval} (H : Fine M n ev) {C u : Nat} {s : Ty} {f r : V} (hf : VT (.fn .nat (.fn s s)) f) (hfb : VB C f) (hr : VT s r) (hrb : VB C r) (hu : u ≤ M) (hn : M - u < n) :
    ∀ m, m ≤ C → Okr C M u s (.recn f r m) (recU (callV ev) f r u m)
  | 0, _ => ⟨Nat.le_refl _, hu, fun _ => ⟨hr, 0, 0, .rec0, rfl, hrb⟩⟩
  | m + 1, hm => by
    have ih := Fine.rec H hf hfb hr hrb hu hn m (by omega)
    revert ih
    simp only [recU, roundR]
    generalize recU (callV ev) f r u m = p
    intro ih
    split
    · rename_i ho
      exact ⟨ih.1, ih.2.1, fun h => by rw [ho] at h; cases h⟩
    · rename_i ho
      obtain ⟨i1, i2, i3⟩ := ih
      obtain ⟨v1, m1, k1, v3, v4, v2⟩ := i3 (by simpa using ho)
      obtain ⟨b, e, rfl, o1, o2, o3⟩ := H.call (C := C) hf hfb (.num m) (.num (show m ≤ C by omega)) i2 (by omega)
      revert o1 o2 o3
      generalize callV ev p.2.1 (.clo b e) (.num m) = c
      intro o1 o2 o3
      split
      · exact ⟨by simp only; omega, o2, fun h => by simp at h⟩
      · rename_i hoc
        obtain ⟨w1, m2, k2, w3, w4, w2⟩ := o3 (by simpa using hoc)
        obtain ⟨b', e', hc, q1, q2, q3⟩ := H.call (C := C + m1 + m2) w1 (w2.mono (by omega)) v1 (v2.mono (by omega)) o2 (by omega)
        refine ⟨by omega, q2, fun h => ?_⟩
        obtain ⟨x1, m3, k3, x3, x4, x2⟩ := q3 h
        rw [hc] at w3
        exact ⟨x1, _, _, .recS v3 w3 x3, by omega, x2.mono (by omega)⟩

theorem Fine.fold {M n : Nat} {ev : Eval} (H : Fine M n ev) {C u : Nat} {s : Ty} {f r : V} (hf : VT (.fn .nat (.fn .list (.fn s s))) f) (hfb : VB C f) (hr : VT s r) (hrb : VB C r) (hu : u ≤ M) (hn : M - u < n) :
    ∀ l : List Nat, l.length ≤ C → (∀ x ∈ l, x ≤ C) → Okr C M u s (.fold f r l) (foldU (callV ev) f r u l)
  | [], _, _ => ⟨Nat.le_refl _, hu, fun _ => ⟨hr, 0, 0, .fold0, rfl, hrb⟩⟩
  | h :: t, hl, hx => by
    simp only [List.length_cons] at hl
    have ih := Fine.fold H hf hfb hr hrb hu hn t (by omega) (fun x hx' => hx x (by simp [hx']))
    have hh := hx h (by simp)
    have ht : ∀ x ∈ t, x ≤ C := fun x hx' => hx x (by simp [hx'])
    revert ih
    simp only [foldU, roundF]
    generalize foldU (callV ev) f r u t = p
    intro ih
    split
    · rename_i ho
      exact ⟨ih.1, ih.2.1, fun h => by rw [ho] at h; cases h⟩
    · rename_i ho
      obtain ⟨i1, i2, i3⟩ := ih
      obtain ⟨v1, m1, k1, v3, v4, v2⟩ := i3 (by simpa using ho)
      obtain ⟨b, e, rfl, o1, o2, o3⟩ := H.call (C := C) hf hfb (.num h) (.num hh) i2 (by omega)
      revert o1 o2 o3
      generalize callV ev p.2.1 (.clo b e) (.num h) = c
      intro o1 o2 o3
      split
      · exact ⟨by simp only; omega, o2, fun h => by simp at h⟩
      · rename_i hoc
        obtain ⟨w1, m2, k2, w3, w4, w2⟩ := o3 (by simpa using hoc)
        obtain ⟨b', e', hc, q1, q2, q3⟩ := H.call (C := C + m2) w1 w2 (.list t) (.list (by omega) (fun x hx' => by have := ht x hx'; omega)) o2 (by omega)
        revert q1 q2 q3
        generalize callV ev c.2.1 c.1 (.list t) = c2
        intro q1 q2 q3
        split
        · exact ⟨by simp only; omega, q2, fun h => by simp at h⟩
        · rename_i hoc2
          obtain ⟨y1, m3, k3, y3, y4, y2⟩ := q3 (by simpa using hoc2)
          obtain ⟨b'', e'', hc2, z1, z2, z3⟩ := H.call (C := C + m1 + m2 + m3) y1 (y2.mono (by omega)) v1 (v2.mono (by omega)) q2 (by omega)
          refine ⟨by omega, z2, fun h => ?_⟩
          obtain ⟨x1, m4, k4, x3, x4, x2⟩ := z3 h
          rw [hc] at w3
          rw [hc2] at y3
          exact ⟨x1, _, _, .foldS v3 w3 y3 x3, by omega, x2.mono (by omega)⟩

theorem Fine.step {M n : Nat} {ev : Eval} (H : Fine M n ev) : Fine M (n + 1) (evStep M ev) := by
  intro C u e t g s d hs he hb hu hn
  unfold evStep
  by_cases hM : u = M
  · rw [if_pos hM]
    exact ⟨Nat.le_refl _, hu, fun h => by simp at h⟩
  rw [if_neg hM]
  have sub : ∀ {t : Tm} {s : Ty} {d : Env g → s.den}, Sem g t s d → ∀ u', u < u' → u' ≤ M → Okr C M u' s (.tm e t) (ev u' e t) := fun h u' h1 h2 => H C u' e _ g _ _ h he hb h2 (by omega)
  cases hs with
  | @var _ i _ p hl =>
    obtain ⟨v, hv, ht⟩ := he.get (look_get hl)
    have e1 : e.getD i .unit = v := by simp [List.getD, hv]
    refine ⟨by simp only; omega, by simp only; omega, fun _ => ?_⟩
    simp only [e1]
    exact ⟨ht, 1, 0, .var hv, rfl, (hb.2 v (List.mem_of_getElem? hv)).mono (by omega)⟩
  | lam h => exact ⟨by simp only; omega, by simp only; omega, fun _ => ⟨.clo h he.1 he.2, 1, 0, .lam, rfl, .clo (by have := hb.1; omega) (fun v hv => (hb.2 v hv).mono (by omega))⟩⟩
  | zero => exact ⟨by simp only [Tm.kids, evArgs, combV, Bool.false_eq_true, if_false]; omega, by simp only [Tm.kids, evArgs, combV, Bool.false_eq_true, if_false]; omega, fun _ => ⟨.num 0, 1, 0, .zero, rfl, .num (Nat.zero_le _)⟩⟩
  | nil => exact ⟨by simp only [Tm.kids, evArgs, combV, Bool.false_eq_true, if_false]; omega, by simp only [Tm.kids, evArgs, combV, Bool.false_eq_true, if_false]; omega, fun _ => ⟨.list [], 1, 0, .nil, rfl, .list (by simp [combV, Tm.kids, evArgs]) (by simp [combV, Tm.kids, evArgs])⟩⟩
  | unit => exact ⟨by simp only [Tm.kids, evArgs, combV, Bool.false_eq_true, if_false]; omega, by simp only [Tm.kids, evArgs, combV, Bool.false_eq_true, if_false]; omega, fun _ => ⟨.unit, 1, 0, .unit, rfl, .unit⟩⟩
  | @succ _ a _ h1 =>
    have i1 := sub h1 (u + 1) (by omega) (by omega)
    simp only [Tm.kids, evArgs]
    obtain ⟨r1, hr1⟩ : ∃ r, ev (u + 1) e a = r := ⟨_, rfl⟩
    rw [hr1] at i1
    simp only [hr1]
    obtain ⟨a1, b1, c1⟩ := i1
    by_cases o1 : r1.2.2 = true
    · simp only [o1, if_true]; exact ⟨by simp only; omega, b1, fun h => by simp at h⟩
    simp only [Bool.not_eq_true] at o1
    simp only [o1, Bool.false_eq_true, if_false]
    obtain ⟨t1, m1, k1, p1, q1, w1⟩ := c1 o1
    revert t1 p1 w1
    generalize r1.1 = v1
    intro t1 p1 w1
    cases t1 with
    | num k =>
      cases w1 with
      | num hk => exact ⟨by simp only [combV]; omega, b1, fun _ => ⟨.num _, _, _, .succ p1, by simp only [combV]; omega, .num (by omega)⟩⟩
  | @fst _ s u' p _ h1 =>
    have i1 := sub h1 (u + 1) (by omega) (by omega)
    simp only [Tm.kids, evArgs]
    obtain ⟨r1, hr1⟩ : ∃ r, ev (u + 1) e p = r := ⟨_, rfl⟩
    rw [hr1] at i1
    simp only [hr1]
    obtain ⟨a1, b1, c1⟩ := i1
    by_cases o1 : r1.2.2 = true
    · simp only [o1, if_true]; exact ⟨by simp only; omega, b1, fun h => by simp at h⟩
    simp only [Bool.not_eq_true] at o1
    simp only [o1, Bool.false_eq_true, if_false]
    obtain ⟨t1, m1, k1, p1, q1, w1⟩ := c1 o1
    revert t1 p1 w1
    generalize r1.1 = v1
    intro t1 p1 w1
    cases t1 with
    | pair x y =>
      cases w1 with
      | pair hx hy => exact ⟨by simp only [combV]; omega, b1, fun _ => ⟨x, _, _, .fst p1, by simp only [combV]; omega, hx.mono (by omega)⟩⟩
  | @snd _ s u' p _ h1 =>
    have i1 := sub h1 (u + 1) (by omega) (by omega)
    simp only [Tm.kids, evArgs]
    obtain ⟨r1, hr1⟩ : ∃ r, ev (u + 1) e p = r := ⟨_, rfl⟩
    rw [hr1] at i1
    simp only [hr1]
    obtain ⟨a1, b1, c1⟩ := i1
    by_cases o1 : r1.2.2 = true
    · simp only [o1, if_true]; exact ⟨by simp only; omega, b1, fun h => by simp at h⟩
    simp only [Bool.not_eq_true] at o1
    simp only [o1, Bool.false_eq_true, if_false]
    obtain ⟨t1, m1, k1, p1, q1, w1⟩ := c1 o1
    revert t1 p1 w1
    generalize r1.1 = v1
    intro t1 p1 w1
    cases t1 with
    | pair x y =>
      cases w1 with
      | pair hx hy => exact ⟨by simp only [combV]; omega, b1, fun _ => ⟨y, _, _, .snd p1, by simp only [combV]; omega, hy.mono (by omega)⟩⟩
  | @app _ s1 u1 f a df da h1 h2 =>
    have i1 := sub h1 (u + 1) (by omega) (by omega)
    simp only [Tm.kids, evArgs]
    obtain ⟨r1, hr1⟩ : ∃ r, ev (u + 1) e f = r := ⟨_, rfl⟩
    rw [hr1] at i1
    simp only [hr1]
    obtain ⟨a1, b1, c1⟩ := i1
    by_cases o1 : r1.2.2 = true
    · simp only [o1, if_true]; exact ⟨by simp only; omega, b1, fun h => by simp at h⟩
    simp only [Bool.not_eq_true] at o1
    simp only [o1, Bool.false_eq_true, if_false]
    obtain ⟨t1, m1, k1, p1, q1, w1⟩ := c1 o1
    have i2 := sub h2 r1.2.1 (by omega) (by omega)
    obtain ⟨r2, hr2⟩ : ∃ r, ev r1.2.1 e a = r := ⟨_, rfl⟩
    rw [hr2] at i2
    simp only [hr2]
    obtain ⟨a2, b2, c2⟩ := i2
    by_cases o2 : r2.2.2 = true
    · simp only [o2, if_true]; exact ⟨by simp only; omega, b2, fun h => by simp at h⟩
    simp only [Bool.not_eq_true] at o2
    simp only [o2, Bool.false_eq_true, if_false]
    obtain ⟨t2, m2, k2, p2, q2, w2⟩ := c2 o2
    obtain ⟨b, e', hf, q1', q2', q3'⟩ := H.call (C := C + m1 + m2) t1 (w1.mono (by omega)) t2 (w2.mono (by omega)) b2 (by omega)
    simp only [combV]
    refine ⟨by omega, q2', fun h => ?_⟩
    obtain ⟨x1, m3, k3, x3, x4, x2⟩ := q3' h
    rw [hf] at p1
    exact ⟨x1, _, _, .app p1 p2 x3, by omega, x2.mono (by omega)⟩
  | @cons _ f a df da h1 h2 =>
    have i1 := sub h1 (u + 1) (by omega) (by omega)
    simp only [Tm.kids, evArgs]
    obtain ⟨r1, hr1⟩ : ∃ r, ev (u + 1) e f = r := ⟨_, rfl⟩
    rw [hr1] at i1
    simp only [hr1]
    obtain ⟨a1, b1, c1⟩ := i1
    by_cases o1 : r1.2.2 = true
    · simp only [o1, if_true]; exact ⟨by simp only; omega, b1, fun h => by simp at h⟩
    simp only [Bool.not_eq_true] at o1
    simp only [o1, Bool.false_eq_true, if_false]
    obtain ⟨t1, m1, k1, p1, q1, w1⟩ := c1 o1
    have i2 := sub h2 r1.2.1 (by omega) (by omega)
    obtain ⟨r2, hr2⟩ : ∃ r, ev r1.2.1 e a = r := ⟨_, rfl⟩
    rw [hr2] at i2
    simp only [hr2]
    obtain ⟨a2, b2, c2⟩ := i2
    by_cases o2 : r2.2.2 = true
    · simp only [o2, if_true]; exact ⟨by simp only; omega, b2, fun h => by simp at h⟩
    simp only [Bool.not_eq_true] at o2
    simp only [o2, Bool.false_eq_true, if_false]
    obtain ⟨t2, m2, k2, p2, q2, w2⟩ := c2 o2
    revert t1 p1 w1 t2 p2 w2
    generalize r1.1 = v1
    generalize r2.1 = v2
    intro t1 p1 w1 t2 p2 w2
    cases t1 with
    | num k =>
      cases t2 with
      | list l =>
        cases w1 with
        | num hk =>
          cases w2 with
          | list hl hx =>
            refine ⟨by simp only [combV]; omega, b2, fun _ => ⟨.list _, _, _, .cons p1 p2, by simp only [combV]; omega, .list (by simp only [List.length_cons]; omega) fun x hx' => ?_⟩⟩
            rcases List.mem_cons.1 hx' with rfl | hx'
            · omega
            · have := hx x hx'; omega
  | @pair _ s1 u1 f a df da h1 h2 =>
    have i1 := sub h1 (u + 1) (by omega) (by omega)
    simp only [Tm.kids, evArgs]
    obtain ⟨r1, hr1⟩ : ∃ r, ev (u + 1) e f = r := ⟨_, rfl⟩
    rw [hr1] at i1
    simp only [hr1]
    obtain ⟨a1, b1, c1⟩ := i1
    by_cases o1 : r1.2.2 = true
    · simp only [o1, if_true]; exact ⟨by simp only; omega, b1, fun h => by simp at h⟩
    simp only [Bool.not_eq_true] at o1
    simp only [o1, Bool.false_eq_true, if_false]
    obtain ⟨t1, m1, k1, p1, q1, w1⟩ := c1 o1
    have i2 := sub h2 r1.2.1 (by omega) (by omega)
    obtain ⟨r2, hr2⟩ : ∃ r, ev r1.2.1 e a = r := ⟨_, rfl⟩
    rw [hr2] at i2
    simp only [hr2]
    obtain ⟨a2, b2, c2⟩ := i2
    by_cases o2 : r2.2.2 = true
    · simp only [o2, if_true]; exact ⟨by simp only; omega, b2, fun h => by simp at h⟩
    simp only [Bool.not_eq_true] at o2
    simp only [o2, Bool.false_eq_true, if_false]
    obtain ⟨t2, m2, k2, p2, q2, w2⟩ := c2 o2
    exact ⟨by simp only [combV]; omega, b2, fun _ => ⟨.pair t1 t2, _, _, .pair p1 p2, by simp only [combV]; omega, .pair (w1.mono (by omega)) (w2.mono (by omega))⟩⟩
  | @recn _ _ b f c db df dc h1 h2 h3 =>
    have i1 := sub h1 (u + 1) (by omega) (by omega)
    simp only [Tm.kids, evArgs]
    obtain ⟨r1, hr1⟩ : ∃ r, ev (u + 1) e b = r := ⟨_, rfl⟩
    rw [hr1] at i1
    simp only [hr1]
    obtain ⟨a1, b1, c1⟩ := i1
    by_cases o1 : r1.2.2 = true
    · simp only [o1, if_true]; exact ⟨by simp only; omega, b1, fun h => by simp at h⟩
    simp only [Bool.not_eq_true] at o1
    simp only [o1, Bool.false_eq_true, if_false]
    obtain ⟨t1, m1, k1, p1, q1, w1⟩ := c1 o1
    have i2 := sub h2 r1.2.1 (by omega) (by omega)
    obtain ⟨r2, hr2⟩ : ∃ r, ev r1.2.1 e f = r := ⟨_, rfl⟩
    rw [hr2] at i2
    simp only [hr2]
    obtain ⟨a2, b2, c2⟩ := i2
    by_cases o2 : r2.2.2 = true
    · simp only [o2, if_true]; exact ⟨by simp only; omega, b2, fun h => by simp at h⟩
    simp only [Bool.not_eq_true] at o2
    simp only [o2, Bool.false_eq_true, if_false]
    obtain ⟨t2, m2, k2, p2, q2, w2⟩ := c2 o2
    have i3 := sub h3 r2.2.1 (by omega) (by omega)
    obtain ⟨r3, hr3⟩ : ∃ r, ev r2.2.1 e c = r := ⟨_, rfl⟩
    rw [hr3] at i3
    simp only [hr3]
    obtain ⟨a3, b3, c3⟩ := i3
    by_cases o3 : r3.2.2 = true
    · simp only [o3, if_true]; exact ⟨by simp only; omega, b3, fun h => by simp at h⟩
    simp only [Bool.not_eq_true] at o3
    simp only [o3, Bool.false_eq_true, if_false]
    obtain ⟨t3, m3, k3, p3, q3, w3⟩ := c3 o3
    revert t3 p3 w3
    generalize r3.1 = v3
    intro t3 p3 w3
    cases t3 with
    | num k =>
      cases w3 with
      | num hk =>
        have hr := H.rec (C := C + m1 + m2 + m3) t2 (w2.mono (by omega)) t1 (w1.mono (by omega)) b3 (by omega) k (by omega)
        simp only [combV]
        refine ⟨by have := hr.1; omega, hr.2.1, fun h => ?_⟩
        obtain ⟨x1, m4, k4, x3, x4, x2⟩ := hr.2.2 h
        exact ⟨x1, _, _, .recn p1 p2 p3 x3, by omega, x2.mono (by omega)⟩
  | @fold _ _ b f c db df dc h1 h2 h3 =>
    have i1 := sub h1 (u + 1) (by omega) (by omega)
    simp only [Tm.kids, evArgs]
    obtain ⟨r1, hr1⟩ : ∃ r, ev (u + 1) e b = r := ⟨_, rfl⟩
    rw [hr1] at i1
    simp only [hr1]
    obtain ⟨a1, b1, c1⟩ := i1
    by_cases o1 : r1.2.2 = true
    · simp only [o1, if_true]; exact ⟨by simp only; omega, b1, fun h => by simp at h⟩
    simp only [Bool.not_eq_true] at o1
    simp only [o1, Bool.false_eq_true, if_false]
    obtain ⟨t1, m1, k1, p1, q1, w1⟩ := c1 o1
    have i2 := sub h2 r1.2.1 (by omega) (by omega)
    obtain ⟨r2, hr2⟩ : ∃ r, ev r1.2.1 e f = r := ⟨_, rfl⟩
    rw [hr2] at i2
    simp only [hr2]
    obtain ⟨a2, b2, c2⟩ := i2
    by_cases o2 : r2.2.2 = true
    · simp only [o2, if_true]; exact ⟨by simp only; omega, b2, fun h => by simp at h⟩
    simp only [Bool.not_eq_true] at o2
    simp only [o2, Bool.false_eq_true, if_false]
    obtain ⟨t2, m2, k2, p2, q2, w2⟩ := c2 o2
    have i3 := sub h3 r2.2.1 (by omega) (by omega)
    obtain ⟨r3, hr3⟩ : ∃ r, ev r2.2.1 e c = r := ⟨_, rfl⟩
    rw [hr3] at i3
    simp only [hr3]
    obtain ⟨a3, b3, c3⟩ := i3
    by_cases o3 : r3.2.2 = true
    · simp only [o3, if_true]; exact ⟨by simp only; omega, b3, fun h => by simp at h⟩
    simp only [Bool.not_eq_true] at o3
    simp only [o3, Bool.false_eq_true, if_false]
    obtain ⟨t3, m3, k3, p3, q3, w3⟩ := c3 o3
    revert t3 p3 w3
    generalize r3.1 = v3
    intro t3 p3 w3
    cases t3 with
    | list k =>
      cases w3 with
      | list hk hx =>
        have hr := H.fold (C := C + m1 + m2 + m3) t2 (w2.mono (by omega)) t1 (w1.mono (by omega)) b3 (by omega) k (by omega) (fun x hx' => by have := hx x hx'; omega)
        simp only [combV]
        refine ⟨by have := hr.1; omega, hr.2.1, fun h => ?_⟩
        obtain ⟨x1, m4, k4, x3, x4, x2⟩ := hr.2.2 h
        exact ⟨x1, _, _, .fold p1 p2 p3 x3, by omega, x2.mono (by omega)⟩
theorem evM_fine (M : Nat) : ∀ n, Fine M n (evM M n)
  | 0 => fun C u e t g s d _ _ _ _ h => by omega
  | n + 1 => (evM_fine M n).step

/-! ### The other way: what evaluation says, the machine finds within its limit -/
def Hit (M u : Nat) (v : V) (m : Nat) (r : Ans) : Prop := (u + m ≤ M ∧ r = (v, u + m, false)) ∨ (M < u + m ∧ r.2.2 = true)
def Full (M n : Nat) (ev : Eval) : Prop := ∀ (u : Nat) (e : List V) (t : Tm) (v : V) (m k : Nat), Ev (.tm e t) v m k → u ≤ M → M - u < n → Hit M u v m (ev u e t)
theorem Full.rec {M n : Nat} {ev : Eval} (H : Full M n ev) {u : Nat} {f r : V} (hu : u ≤ M) (hn : M - u < n) : ∀ (q : Nat) (v : V) (m k : Nat), Ev (.recn f r q) v m k → Hit M u v m (recU (callV ev) f r u q)
  | 0, v, m, k, h => by cases h; exact .inl ⟨by omega, rfl⟩
  | q + 1, v, m, k, h => by
    cases h with
    | @recS b c e e' _ w _ _ m1 m2 m3 k1 k2 k3 h1 h2 h3 =>
      rcases Full.rec H hu hn q _ _ _ h1 with ⟨i1, i2⟩ | ⟨i1, i2⟩
      · simp only [recU, roundR, i2, Bool.false_eq_true, if_false]
        rcases H (u + m1) _ _ _ _ _ h2 (by omega) (by omega) with ⟨j1, j2⟩ | ⟨j1, j2⟩
        · simp only [callV, j2, Bool.false_eq_true, if_false]
          rcases H (u + m1 + m2) _ _ _ _ _ h3 (by omega) (by omega) with ⟨l1, l2⟩ | ⟨l1, l2⟩
          · exact .inl ⟨by omega, by rw [l2]; congr 2; omega⟩
          · exact .inr ⟨by omega, l2⟩
        · simp only [callV, j2, if_true]
          exact .inr ⟨by omega, rfl⟩
      · simp only [recU, roundR, i2, if_true]
        exact .inr ⟨by omega, i2⟩
theorem Full.fold {M n : Nat} {ev : Eval} (H : Full M n ev) {u : Nat} {f r : V} (hu : u ≤ M) (hn : M - u < n) : ∀ (l : List Nat) (v : V) (m k : Nat), Ev (.fold f r l) v m k → Hit M u v m (foldU (callV ev) f r u l)
  | [], v, m, k, h => by cases h; exact .inl ⟨by omega, rfl⟩
  | x :: l, v, m, k, h => by
    cases h with
    | @foldS b c c' e e' e'' _ w _ _ _ m1 m2 m3 m4 k1 k2 k3 k4 h1 h2 h3 h4 =>
      rcases Full.fold H hu hn l _ _ _ h1 with ⟨i1, i2⟩ | ⟨i1, i2⟩
      · simp only [foldU, roundF, i2, Bool.false_eq_true, if_false]
        rcases H (u + m1) _ _ _ _ _ h2 (by omega) (by omega) with ⟨j1, j2⟩ | ⟨j1, j2⟩
        · simp only [callV, j2, Bool.false_eq_true, if_false]
          rcases H (u + m1 + m2) _ _ _ _ _ h3 (by omega) (by omega) with ⟨l1, l2⟩ | ⟨l1, l2⟩
          · simp only [l2, Bool.false_eq_true, if_false]
            rcases H (u + m1 + m2 + m3) _ _ _ _ _ h4 (by omega) (by omega) with ⟨g1, g2⟩ | ⟨g1, g2⟩
            · exact .inl ⟨by omega, by rw [g2]; congr 2; omega⟩
            · exact .inr ⟨by omega, g2⟩
          · simp only [l2, if_true]
            exact .inr ⟨by omega, rfl⟩
        · simp only [callV, j2, if_true]
          exact .inr ⟨by omega, rfl⟩
      · simp only [foldU, roundF, i2, if_true]
        exact .inr ⟨by omega, i2⟩
theorem Full.step {M n : Nat} {ev : Eval} (H : Full M n ev) : Full M (n + 1) (evStep M ev) := by
  intro u e t v m k h hu hn
  have hp := h.work_pos
  unfold evStep
  by_cases hM : u = M
  · rw [if_pos hM]
    exact .inr ⟨by omega, rfl⟩
  rw [if_neg hM]
  cases h with
  | var h => exact .inl ⟨by omega, by simp [List.getD, h]⟩
  | lam => exact .inl ⟨by omega, rfl⟩
  | zero => exact .inl ⟨by omega, rfl⟩
  | nil => exact .inl ⟨by omega, rfl⟩
  | unit => exact .inl ⟨by omega, rfl⟩
  | @succ _ _ q m1 k1 h1 =>
    rcases H (u + 1) _ _ _ _ _ h1 (by omega) (by omega) with ⟨i1, j1⟩ | ⟨i1, j1⟩
    rotate_left
    · simp only [Tm.kids, evArgs, j1, if_true, Bool.false_eq_true, if_false]
      exact .inr ⟨by omega, rfl⟩
    simp only [Tm.kids, evArgs, j1, if_true, Bool.false_eq_true, if_false, combV]
    exact .inl ⟨by omega, by congr 2; omega⟩
  | @fst _ _ x y m1 k1 h1 =>
    rcases H (u + 1) _ _ _ _ _ h1 (by omega) (by omega) with ⟨i1, j1⟩ | ⟨i1, j1⟩
    rotate_left
    · simp only [Tm.kids, evArgs, j1, if_true, Bool.false_eq_true, if_false]
      exact .inr ⟨by omega, rfl⟩
    simp only [Tm.kids, evArgs, j1, if_true, Bool.false_eq_true, if_false, combV]
    exact .inl ⟨by omega, by congr 2; omega⟩
  | @snd _ _ x y m1 k1 h1 =>
    rcases H (u + 1) _ _ _ _ _ h1 (by omega) (by omega) with ⟨i1, j1⟩ | ⟨i1, j1⟩
    rotate_left
    · simp only [Tm.kids, evArgs, j1, if_true, Bool.false_eq_true, if_false]
      exact .inr ⟨by omega, rfl⟩
    simp only [Tm.kids, evArgs, j1, if_true, Bool.false_eq_true, if_false, combV]
    exact .inl ⟨by omega, by congr 2; omega⟩
  | @cons _ _ _ q l m1 m2 k1 k2 h1 h2 =>
    rcases H (u + 1) _ _ _ _ _ h1 (by omega) (by omega) with ⟨i1, j1⟩ | ⟨i1, j1⟩
    rotate_left
    · simp only [Tm.kids, evArgs, j1, if_true, Bool.false_eq_true, if_false]
      exact .inr ⟨by omega, rfl⟩
    rcases H (u + 1 + m1) _ _ _ _ _ h2 (by omega) (by omega) with ⟨i2, j2⟩ | ⟨i2, j2⟩
    rotate_left
    · simp only [Tm.kids, evArgs, j1, j2, if_true, Bool.false_eq_true, if_false]
      exact .inr ⟨by omega, rfl⟩
    simp only [Tm.kids, evArgs, j1, j2, if_true, Bool.false_eq_true, if_false, combV]
    exact .inl ⟨by omega, by congr 2; omega⟩
  | @pair _ _ _ x y m1 m2 k1 k2 h1 h2 =>
    rcases H (u + 1) _ _ _ _ _ h1 (by omega) (by omega) with ⟨i1, j1⟩ | ⟨i1, j1⟩
    rotate_left
    · simp only [Tm.kids, evArgs, j1, if_true, Bool.false_eq_true, if_false]
      exact .inr ⟨by omega, rfl⟩
    rcases H (u + 1 + m1) _ _ _ _ _ h2 (by omega) (by omega) with ⟨i2, j2⟩ | ⟨i2, j2⟩
    rotate_left
    · simp only [Tm.kids, evArgs, j1, j2, if_true, Bool.false_eq_true, if_false]
      exact .inr ⟨by omega, rfl⟩
    simp only [Tm.kids, evArgs, j1, j2, if_true, Bool.false_eq_true, if_false, combV]
    exact .inl ⟨by omega, by congr 2; omega⟩
  | @app _ e' _ _ b x _ m1 m2 m3 k1 k2 k3 h1 h2 h3 =>
    rcases H (u + 1) _ _ _ _ _ h1 (by omega) (by omega) with ⟨i1, j1⟩ | ⟨i1, j1⟩
    rotate_left
    · simp only [Tm.kids, evArgs, j1, if_true, Bool.false_eq_true, if_false]
      exact .inr ⟨by omega, rfl⟩
    rcases H (u + 1 + m1) _ _ _ _ _ h2 (by omega) (by omega) with ⟨i2, j2⟩ | ⟨i2, j2⟩
    rotate_left
    · simp only [Tm.kids, evArgs, j1, j2, if_true, Bool.false_eq_true, if_false]
      exact .inr ⟨by omega, rfl⟩
    simp only [Tm.kids, evArgs, j1, j2, if_true, Bool.false_eq_true, if_false, combV]
    rcases H (u + 1 + m1 + m2) _ _ _ _ _ h3 (by omega) (by omega) with ⟨l1, l2⟩ | ⟨l1, l2⟩
    · exact .inl ⟨by omega, by simp only [callV]; rw [l2]; congr 2; omega⟩
    · exact .inr ⟨by omega, l2⟩
  | @recn _ _ _ _ _ vb vf _ q m1 m2 m3 m4 k1 k2 k3 k4 h1 h2 h3 h4 =>
    rcases H (u + 1) _ _ _ _ _ h1 (by omega) (by omega) with ⟨i1, j1⟩ | ⟨i1, j1⟩
    rotate_left
    · simp only [Tm.kids, evArgs, j1, if_true, Bool.false_eq_true, if_false]
      exact .inr ⟨by omega, rfl⟩
    rcases H (u + 1 + m1) _ _ _ _ _ h2 (by omega) (by omega) with ⟨i2, j2⟩ | ⟨i2, j2⟩
    rotate_left
    · simp only [Tm.kids, evArgs, j1, j2, if_true, Bool.false_eq_true, if_false]
      exact .inr ⟨by omega, rfl⟩
    rcases H (u + 1 + m1 + m2) _ _ _ _ _ h3 (by omega) (by omega) with ⟨i3, j3⟩ | ⟨i3, j3⟩
    rotate_left
    · simp only [Tm.kids, evArgs, j1, j2, j3, if_true, Bool.false_eq_true, if_false]
      exact .inr ⟨by omega, rfl⟩
    simp only [Tm.kids, evArgs, j1, j2, j3, if_true, Bool.false_eq_true, if_false, combV]
    rcases Full.rec H (u := u + 1 + m1 + m2 + m3) (by omega) (by omega) _ _ _ _ h4 with ⟨l1, l2⟩ | ⟨l1, l2⟩
    · exact .inl ⟨by omega, by rw [l2]; congr 2; omega⟩
    · exact .inr ⟨by omega, l2⟩
  | @fold _ _ _ _ _ vb vf _ l m1 m2 m3 m4 k1 k2 k3 k4 h1 h2 h3 h4 =>
    rcases H (u + 1) _ _ _ _ _ h1 (by omega) (by omega) with ⟨i1, j1⟩ | ⟨i1, j1⟩
    rotate_left
    · simp only [Tm.kids, evArgs, j1, if_true, Bool.false_eq_true, if_false]
      exact .inr ⟨by omega, rfl⟩
    rcases H (u + 1 + m1) _ _ _ _ _ h2 (by omega) (by omega) with ⟨i2, j2⟩ | ⟨i2, j2⟩
    rotate_left
    · simp only [Tm.kids, evArgs, j1, j2, if_true, Bool.false_eq_true, if_false]
      exact .inr ⟨by omega, rfl⟩
    rcases H (u + 1 + m1 + m2) _ _ _ _ _ h3 (by omega) (by omega) with ⟨i3, j3⟩ | ⟨i3, j3⟩
    rotate_left
    · simp only [Tm.kids, evArgs, j1, j2, j3, if_true, Bool.false_eq_true, if_false]
      exact .inr ⟨by omega, rfl⟩
    simp only [Tm.kids, evArgs, j1, j2, j3, if_true, Bool.false_eq_true, if_false, combV]
    rcases Full.fold H (u := u + 1 + m1 + m2 + m3) (by omega) (by omega) _ _ _ _ h4 with ⟨l1, l2⟩ | ⟨l1, l2⟩
    · exact .inl ⟨by omega, by rw [l2]; congr 2; omega⟩
    · exact .inr ⟨by omega, l2⟩
theorem evM_full (M : Nat) : ∀ n, Full M n (evM M n)
  | 0 => fun u e t v m k _ _ h => by omega
  | n + 1 => (evM_full M n).step
end T
end Go.Proofs.YthclcchnodjjpaaGreatDoor
/- PURE THEORY 8: one step of the machine, by the number of parts. -/
set_option linter.unusedVariables false
set_option linter.unusedSimpArgs false
namespace Go.Proofs.YthclcchnodjjpaaGreatDoor
namespace T
open M
theorem evStep_two {M u : Nat} {ev : Eval} {e : List V} {t : Tm} (hM0 : u ≠ M) (ht : ∀ i, t ≠ .var i) (ht2 : ∀ s b, t ≠ .lam s b) : evStep M ev u e t = if (evArgs (fun u a => ev u e a) (u + 1) t.kids).2.2 = true then (.unit, (evArgs (fun u a => ev u e a) (u + 1) t.kids).2.1, true)
    else combV ev (evArgs (fun u a => ev u e a) (u + 1) t.kids).2.1 t (evArgs (fun u a => ev u e a) (u + 1) t.kids).1 := by
  cases t <;> first | exact absurd rfl (ht _) | exact absurd rfl (ht2 _ _) | simp only [evStep, if_neg hM0]
theorem evStep_1 {M u : Nat} {ev : Eval} {e : List V} {t a : Tm} (hM0 : u ≠ M) (ht : ∀ i, t ≠ .var i) (ht2 : ∀ s b, t ≠ .lam s b) (hk : t.kids = [a]) : evStep M ev u e t =
    if (ev (u + 1) e a).2.2 = true then (.unit, (ev (u + 1) e a).2.1, true) else combV ev (ev (u + 1) e a).2.1 t [(ev (u + 1) e a).1] := by
  rw [evStep_two hM0 ht ht2, hk]
  simp only [evArgs]
  by_cases o : (ev (u + 1) e a).2.2 = true <;> simp [o]
theorem evStep_2 {M u : Nat} {ev : Eval} {e : List V} {t a b : Tm} (hM0 : u ≠ M) (ht : ∀ i, t ≠ .var i) (ht2 : ∀ s b, t ≠ .lam s b) (hk : t.kids = [a, b]) : evStep M ev u e t =
    if (ev (u + 1) e a).2.2 = true then (.unit, (ev (u + 1) e a).2.1, true) else if (ev (ev (u + 1) e a).2.1 e b).2.2 = true then (.unit, (ev (ev (u + 1) e a).2.1 e b).2.1, true)
    else combV ev (ev (ev (u + 1) e a).2.1 e b).2.1 t [(ev (u + 1) e a).1, (ev (ev (u + 1) e a).2.1 e b).1] := by
  rw [evStep_two hM0 ht ht2, hk]
  simp only [evArgs]
  by_cases o : (ev (u + 1) e a).2.2 = true
  · simp [o]
  by_cases o2 : (ev (ev (u + 1) e a).2.1 e b).2.2 = true <;> simp [o, o2]
theorem evStep_3 {M u : Nat} {ev : Eval} {e : List V} {t a b c : Tm} (hM0 : u ≠ M) (ht : ∀ i, t ≠ .var i) (ht2 : ∀ s b, t ≠ .lam s b) (hk : t.kids = [a, b, c]) : evStep M ev u e t =
    if (ev (u + 1) e a).2.2 = true then (.unit, (ev (u + 1) e a).2.1, true) else if (ev (ev (u + 1) e a).2.1 e b).2.2 = true then (.unit, (ev (ev (u + 1) e a).2.1 e b).2.1, true)
    else if (ev (ev (ev (u + 1) e a).2.1 e b).2.1 e c).2.2 = true then (.unit, (ev (ev (ev (u + 1) e a).2.1 e b).2.1 e c).2.1, true)
    else combV ev (ev (ev (ev (u + 1) e a).2.1 e b).2.1 e c).2.1 t [(ev (u + 1) e a).1, (ev (ev (u + 1) e a).2.1 e b).1, (ev (ev (ev (u + 1) e a).2.1 e b).2.1 e c).1] := by
  rw [evStep_two hM0 ht ht2, hk]
  simp only [evArgs]
  by_cases o : (ev (u + 1) e a).2.2 = true
  · simp [o]
  by_cases o2 : (ev (ev (u + 1) e a).2.1 e b).2.2 = true
  · simp [o, o2]
  by_cases o3 : (ev (ev (ev (u + 1) e a).2.1 e b).2.1 e c).2.2 = true <;> simp [o, o2, o3]
theorem VT.inv_nat {v : V} (h : VT .nat v) : ∃ k, v = .num k := by cases h; exact ⟨_, rfl⟩
theorem VT.inv_list {v : V} (h : VT .list v) : ∃ l, v = .list l := by cases h; exact ⟨_, rfl⟩
theorem VT.inv_pair {s u : Ty} {v : V} (h : VT (.pair s u) v) : ∃ x y, v = .pair x y := by cases h; exact ⟨_, _, rfl⟩
theorem VB.inv_num {C k : Nat} (h : VB C (.num k)) : k ≤ C := by cases h; assumption
theorem VB.inv_list {C : Nat} {l : List Nat} (h : VB C (.list l)) : l.length ≤ C ∧ ∀ x ∈ l, x ≤ C := by cases h; exact ⟨by assumption, by assumption⟩
end T
end Go.Proofs.YthclcchnodjjpaaGreatDoor
/- RESULTS OF THE REFERENCE'S MACHINE as values of T; a loop gone through once. -/
set_option linter.unusedVariables false
set_option linter.unusedSimpArgs false
namespace Go.Proofs.YthclcchnodjjpaaGreatDoor
namespace M
open T (V Ty Tm noTy)
theorem Wp.unroll {cx : Cx} {E : Oracle} {f : Nat} {K : Ex → Regs → St → Prop} {r : Regs} {S : St} {b : Code} (h : Wp cx E f b r S (thenK K fun r S => Wp cx E f (.loop b) r S K)) : Wp cx E f (.loop b) r S K := by
  obtain ⟨o, h1, h2⟩ := h
  cases he : o.ex with
  | normal =>
    rw [he] at h2
    obtain ⟨p, h3, h4⟩ := (show Wp cx E f (.loop b) o.r o.S K from h2)
    exact ⟨p, lup_step h1 (fun _ => h3) (fun hn => absurd he hn), h4⟩
  | exit i => rw [he] at h2; exact ⟨o, lup_step h1 (fun e => by rw [he] at e; cases e) (fun _ => rfl), by rw [he]; exact h2⟩
  | ret => rw [he] at h2; exact ⟨o, lup_step h1 (fun e => by rw [he] at e; cases e) (fun _ => rfl), by rw [he]; exact h2⟩

inductive RX where
  | mk (n : Int) (l : List Int) (p : List RX) (b : RM) (e : List RX)
def RX.n : RX → Int | .mk n _ _ _ _ => n
def RX.l : RX → List Int | .mk _ l _ _ _ => l
def RX.p : RX → List RX | .mk _ _ p _ _ => p
def RX.b : RX → RM | .mk _ _ _ b _ => b
def RX.e : RX → List RX | .mk _ _ _ _ e => e
@[simp] theorem RX.n_mk (n : Int) (l : List Int) (p : List RX) (b : RM) (e : List RX) : (RX.mk n l p b e).n = n := rfl
@[simp] theorem RX.l_mk (n : Int) (l : List Int) (p : List RX) (b : RM) (e : List RX) : (RX.mk n l p b e).l = l := rfl
@[simp] theorem RX.p_mk (n : Int) (l : List Int) (p : List RX) (b : RM) (e : List RX) : (RX.mk n l p b e).p = p := rfl
@[simp] theorem RX.b_mk (n : Int) (l : List Int) (p : List RX) (b : RM) (e : List RX) : (RX.mk n l p b e).b = b := rfl
@[simp] theorem RX.e_mk (n : Int) (l : List Int) (p : List RX) (b : RM) (e : List RX) : (RX.mk n l p b e).e = e := rfl
@[simp] theorem RX.eta (t : RX) : RX.mk t.n t.l t.p t.b t.e = t := by cases t; rfl
mutual
def RX.cells : RX → List AV
  | .mk n l p b e => [.int .i64 n, .sl (l.map ic) .dead, .sl (RX.cellss p) .dead, .int .i64 b.k, .int .i64 b.i, .int .i64 b.ty.k, .sl (b.ty.as.map RT.cells) .dead, .sl (b.as.map RM.cells) .dead, .sl (RX.cellss e) .dead]
def RX.cellss : List RX → List (List AV)
  | [] => []
  | a :: l => a.cells :: RX.cellss l
end
theorem RX.cellss_eq : ∀ l : List RX, RX.cellss l = l.map RX.cells
  | [] => rfl
  | a :: l => by simp only [RX.cellss, List.map_cons, RX.cellss_eq l]
@[simp] theorem RX.cells_eq (t : RX) : t.cells = [.int .i64 t.n, .sl (t.l.map ic) .dead, .sl (t.p.map RX.cells) .dead, .int .i64 t.b.k, .int .i64 t.b.i, .int .i64 t.b.ty.k, .sl (t.b.ty.as.map RT.cells) .dead, .sl (t.b.as.map RM.cells) .dead, .sl (t.e.map RX.cells) .dead] := by
  cases t; simp only [RX.cells, RX.cellss_eq, RX.n_mk, RX.l_mk, RX.p_mk, RX.b_mk, RX.e_mk]
def RX.enc (t : RX) : AV := .agg t.cells
@[simp] theorem RX.enc_eq (t : RX) : t.enc = .agg [.int .i64 t.n, .sl (t.l.map ic) .dead, .sl (t.p.map RX.cells) .dead, .int .i64 t.b.k, .int .i64 t.b.i, .int .i64 t.b.ty.k, .sl (t.b.ty.as.map RT.cells) .dead, .sl (t.b.as.map RM.cells) .dead, .sl (t.e.map RX.cells) .dead] := by rw [RX.enc, RX.cells_eq]
mutual
theorem RX.ind_aux {q : RX → Prop} (h : ∀ n l p b e, (∀ a ∈ p, q a) → (∀ a ∈ e, q a) → q (.mk n l p b e)) : ∀ t, q t
  | .mk n l p b e => h n l p b e (RX.ind_list h p) (RX.ind_list h e)
theorem RX.ind_list {q : RX → Prop} (h : ∀ n l p b e, (∀ a ∈ p, q a) → (∀ a ∈ e, q a) → q (.mk n l p b e)) : ∀ l : List RX, ∀ a ∈ l, q a
  | [], a, ha => by simp at ha
  | b :: l, a, ha => by
    rcases List.mem_cons.1 ha with e | ha
    · rw [e]; exact RX.ind_aux h b
    · exact RX.ind_list h l a ha
end
theorem RX.ind {q : RX → Prop} (t : RX) (h : ∀ n l p b e, (∀ a ∈ p, q a) → (∀ a ∈ e, q a) → q (.mk n l p b e)) : q t := RX.ind_aux h t
theorem RX.cells_clean (g : Nat → Nat → AV) (t : RX) : List.map (mapLoc g) t.cells = t.cells := by
  induction t using RX.ind with | h n l p b e ih1 ih2 =>
  rw [RX.cells_eq]
  simp only [RX.n_mk, RX.l_mk, RX.p_mk, RX.b_mk, RX.e_mk, List.map_cons, List.map_nil, mapLoc_int, mapLoc_sl, List.map_map, ic_clean, RT.clean, RM.clean]
  rw [List.map_congr_left (f := List.map (mapLoc g) ∘ RX.cells) (g := RX.cells) fun a ha => ih1 a ha, List.map_congr_left (f := List.map (mapLoc g) ∘ RX.cells) (g := RX.cells) fun a ha => ih2 a ha]
@[simp] theorem RX.clean (g : Nat → Nat → AV) : List.map (mapLoc g) ∘ RX.cells = RX.cells := by funext t; exact RX.cells_clean g t
@[simp] theorem RX.clean' {α : Type} (g : Nat → Nat → AV) (f : α → RX) : List.map (mapLoc g) ∘ (RX.cells ∘ f) = RX.cells ∘ f := by funext x; exact RX.cells_clean g (f x)
@[simp] theorem RX.cells_dd : List.map dd ∘ RX.cells = RX.cells := RX.clean _
@[simp] theorem RX.cells_dd' {α : Type} (f : α → RX) : List.map dd ∘ (RX.cells ∘ f) = RX.cells ∘ f := RX.clean' _ f
@[simp] theorem RX.cells_len' {α : Type} (f : α → RX) : (fun c : List AV => c.length == 9) ∘ (RX.cells ∘ f) = fun _ => true := by funext x; simp
@[simp] theorem RX.cells_len : (fun c : List AV => c.length == 9) ∘ RX.cells = fun _ => true := by funext t; simp

def zeroX : RX := .mk 0 [] [] zeroM []
mutual
/-- A value, as the reference's machine has it. -/
def V.rx : V → RX
  | .num n => .mk n [] [] zeroM []
  | .list l => .mk 0 (l.map Int.ofNat) [] zeroM []
  | .pair a b => .mk 0 [] [V.rx a, V.rx b] zeroM []
  | .unit => zeroX
  | .clo b e => .mk 0 [] [] b.raw (V.rxs e).reverse
def V.rxs : List V → List RX
  | [] => []
  | a :: l => V.rx a :: V.rxs l
end
theorem V.rxs_eq : ∀ l : List V, V.rxs l = l.map V.rx
  | [] => rfl
  | a :: l => by simp only [V.rxs, List.map_cons, V.rxs_eq l]
@[simp] theorem V.rx_num (n : Nat) : V.rx (.num n) = .mk n [] [] zeroM [] := by simp only [V.rx]
@[simp] theorem V.rx_list (l : List Nat) : V.rx (.list l) = .mk 0 (l.map Int.ofNat) [] zeroM [] := by simp only [V.rx]
@[simp] theorem V.rx_pair (a b : V) : V.rx (.pair a b) = .mk 0 [] [V.rx a, V.rx b] zeroM [] := by simp only [V.rx]
@[simp] theorem V.rx_unit : V.rx .unit = .mk 0 [] [] zeroM [] := by simp only [V.rx, zeroX]
@[simp] theorem V.rx_clo (b : Tm) (e : List V) : V.rx (.clo b e) = .mk 0 [] [] b.raw (e.map V.rx).reverse := by simp only [V.rx, V.rxs_eq]
@[simp] theorem zeroM_eq : zeroM = .mk 0 0 (.mk 0 []) [] := rfl
/-- The values of variables, as the reference has them: the last one is 0. -/
def envV (e : List V) : AV := .sl ((e.map (RX.cells ∘ V.rx)).reverse) .dead
@[simp] theorem envV_eq (e : List V) : envV e = .sl ((e.map (RX.cells ∘ V.rx)).reverse) .dead := rfl
theorem el_reverse {α : Type} (l : List α) (i : Nat) (h : i < l.length) : el l.reverse (l.length - 1 - i) = el l i := by
  simp only [el]
  rw [List.getElem?_reverse (by omega)]
  congr 1
  omega
end M
end Go.Proofs.YthclcchnodjjpaaGreatDoor
