/- A part of the proof: RsI. -/
import Derived.Test.YthclcchnodjjpaaGreatDoorG18
import Derived.Test.YthclcchnodjjpaaGreatDoorG02
/- THE TYPE OF A TERM, found part by part. -/
set_option linter.unusedVariables false
set_option linter.unusedSimpArgs false
namespace Go.Proofs.YthclcchnodjjpaaGreatDoor
namespace T
open M
def resT : Res → RT
  | .inl s => s.raw
  | .inr _ => .mk 0 []
def resE : Res → Int
  | .inl _ => 0
  | .inr e => e
/-- What the types of the parts give. -/
def combT : Tm → List Ty → Res
  | .app _ _, [.fn s u, y] => if s = y then .inl u else .inr 7
  | .zero, _ => .inl .nat
  | .succ _, [x] => if x = .nat then .inl .nat else .inr 7
  | .recn s _ _ _, [x, y, z] => if x = s ∧ y = .fn .nat (.fn s s) ∧ z = .nat then .inl s else .inr 7
  | .nil, _ => .inl .list
  | .cons _ _, [x, y] => if x = .nat ∧ y = .list then .inl .list else .inr 7
  | .fold s _ _ _, [x, y, z] => if x = s ∧ y = .fn .nat (.fn .list (.fn s s)) ∧ z = .list then .inl s else .inr 7
  | .pair _ _, [x, y] => fit (.pair x y)
  | .fst _, [.pair s _] => .inl s
  | .snd _, [.pair _ u] => .inl u
  | .unit, _ => .inl .unit
  | _, _ => .inr 7
def Tm.two : Tm → Bool
  | .var _ => false
  | .lam _ _ => false
  | _ => true
theorem tyR_comb {g : List Ty} {t : Tm} {ss : List Ty} (ht : t.two = true) (h : t.kids.map (tyR g) = ss.map .inl) : tyR g t = combT t ss := by
  cases t with
  | var i => cases ht
  | lam s b => cases ht
  | zero => rfl
  | nil => rfl
  | unit => rfl
  | succ a =>
    rcases ss with _ | ⟨x, _ | ⟨y, ss⟩⟩ <;> simp [Tm.kids] at h
    simp [tyR, h, Res.bind, combT]
  | fst a =>
    rcases ss with _ | ⟨x, _ | ⟨y, ss⟩⟩ <;> simp [Tm.kids] at h
    cases x <;> simp [tyR, h, Res.bind, combT]
  | snd a =>
    rcases ss with _ | ⟨x, _ | ⟨y, ss⟩⟩ <;> simp [Tm.kids] at h
    cases x <;> simp [tyR, h, Res.bind, combT]
  | app f a =>
    rcases ss with _ | ⟨x, _ | ⟨y, _ | ⟨z, ss⟩⟩⟩ <;> simp [Tm.kids] at h
    cases x <;> simp [tyR, h, Res.bind, combT]
  | cons f a =>
    rcases ss with _ | ⟨x, _ | ⟨y, _ | ⟨z, ss⟩⟩⟩ <;> simp [Tm.kids] at h
    simp [tyR, h, Res.bind, combT]
  | pair f a =>
    rcases ss with _ | ⟨x, _ | ⟨y, _ | ⟨z, ss⟩⟩⟩ <;> simp [Tm.kids] at h
    simp [tyR, h, Res.bind, combT]
  | recn s b f n =>
    rcases ss with _ | ⟨x, _ | ⟨y, _ | ⟨z, _ | ⟨w, ss⟩⟩⟩⟩ <;> simp [Tm.kids] at h
    simp [tyR, h, Res.bind, combT]
  | fold s b f n =>
    rcases ss with _ | ⟨x, _ | ⟨y, _ | ⟨z, _ | ⟨w, ss⟩⟩⟩⟩ <;> simp [Tm.kids] at h
    simp [tyR, h, Res.bind, combT]
theorem tyR_fail {g : List Ty} {t a : Tm} {done rest : List Tm} {ss : List Ty} {e : Int} (ht : t.two = true) (hk : t.kids = done ++ a :: rest) (h : done.map (tyR g) = ss.map .inl) (ha : tyR g a = .inr e) : tyR g t = .inr e := by
  cases t with
  | var i => cases ht
  | lam s b => cases ht
  | zero => simp [Tm.kids] at hk
  | nil => simp [Tm.kids] at hk
  | unit => simp [Tm.kids] at hk
  | succ x =>
    rcases done with _ | ⟨d, done⟩ <;> simp [Tm.kids] at hk
    obtain ⟨rfl, _⟩ := hk
    simp [tyR, ha, Res.bind]
  | fst x =>
    rcases done with _ | ⟨d, done⟩ <;> simp [Tm.kids] at hk
    obtain ⟨rfl, _⟩ := hk
    simp [tyR, ha, Res.bind]
  | snd x =>
    rcases done with _ | ⟨d, done⟩ <;> simp [Tm.kids] at hk
    obtain ⟨rfl, _⟩ := hk
    simp [tyR, ha, Res.bind]
  | app x y =>
    rcases done with _ | ⟨d, _ | ⟨d', done⟩⟩ <;> simp [Tm.kids] at hk
    · obtain ⟨rfl, _⟩ := hk
      simp [tyR, ha, Res.bind]
    · obtain ⟨rfl, rfl, _⟩ := hk
      rcases ss with _ | ⟨z, ss⟩ <;> simp at h
      simp [tyR, ha, h, Res.bind]
  | cons x y =>
    rcases done with _ | ⟨d, _ | ⟨d', done⟩⟩ <;> simp [Tm.kids] at hk
    · obtain ⟨rfl, _⟩ := hk
      simp [tyR, ha, Res.bind]
    · obtain ⟨rfl, rfl, _⟩ := hk
      rcases ss with _ | ⟨z, ss⟩ <;> simp at h
      simp [tyR, ha, h, Res.bind]
  | pair x y =>
    rcases done with _ | ⟨d, _ | ⟨d', done⟩⟩ <;> simp [Tm.kids] at hk
    · obtain ⟨rfl, _⟩ := hk
      simp [tyR, ha, Res.bind]
    · obtain ⟨rfl, rfl, _⟩ := hk
      rcases ss with _ | ⟨z, ss⟩ <;> simp at h
      simp [tyR, ha, h, Res.bind]
  | recn s x y z =>
    rcases done with _ | ⟨d, _ | ⟨d', _ | ⟨d'', done⟩⟩⟩ <;> simp [Tm.kids] at hk
    · obtain ⟨rfl, _⟩ := hk
      simp [tyR, ha, Res.bind]
    · obtain ⟨rfl, rfl, _⟩ := hk
      rcases ss with _ | ⟨z, ss⟩ <;> simp at h
      simp [tyR, ha, h, Res.bind]
    · obtain ⟨rfl, rfl, rfl, _⟩ := hk
      rcases ss with _ | ⟨z, _ | ⟨z', ss⟩⟩ <;> simp at h
      simp [tyR, ha, h, Res.bind]
  | fold s x y z =>
    rcases done with _ | ⟨d, _ | ⟨d', _ | ⟨d'', done⟩⟩⟩ <;> simp [Tm.kids] at hk
    · obtain ⟨rfl, _⟩ := hk
      simp [tyR, ha, Res.bind]
    · obtain ⟨rfl, rfl, _⟩ := hk
      rcases ss with _ | ⟨z, ss⟩ <;> simp at h
      simp [tyR, ha, h, Res.bind]
    · obtain ⟨rfl, rfl, rfl, _⟩ := hk
      rcases ss with _ | ⟨z, _ | ⟨z', ss⟩⟩ <;> simp at h
      simp [tyR, ha, h, Res.bind]
theorem bind_inr {r : Res} {f : Ty → Res} {e : Int} (h : r.bind f = .inr e) : r = .inr e ∨ ∃ x, r = .inl x ∧ f x = .inr e := by
  cases r with
  | inl x => exact .inr ⟨x, rfl, h⟩
  | inr e' => exact .inl h
theorem fit_err {s : Ty} {e : Int} (h : fit s = .inr e) : e ≠ 0 := by
  unfold fit at h
  split at h
  · cases h
  · cases h; decide
theorem ite_err {c : Prop} [Decidable c] {s : Ty} {e : Int} (h : (if c then (.inl s : Res) else .inr 7) = .inr e) : e ≠ 0 := by
  split at h
  · cases h
  · cases h; decide
theorem tyR_err (t : Tm) : ∀ {g : List Ty} {e : Int}, tyR g t = .inr e → e ≠ 0 := by
  induction t with
  | var i =>
    intro g e h
    simp only [tyR] at h
    split at h
    · cases h
    · cases h; decide
  | lam s b ih =>
    intro g e h
    rcases bind_inr h with h | ⟨x, _, h⟩
    · exact ih h
    · exact fit_err h
  | app f a ih1 ih2 =>
    intro g e h
    rcases bind_inr h with h | ⟨x, _, h⟩
    · exact ih1 h
    rcases bind_inr h with h | ⟨y, _, h⟩
    · exact ih2 h
    cases x with
    | fn s u => exact ite_err h
    | _ => cases h; decide
  | zero => intro g e h; cases h
  | nil => intro g e h; cases h
  | unit => intro g e h; cases h
  | succ a ih =>
    intro g e h
    rcases bind_inr h with h | ⟨x, _, h⟩
    · exact ih h
    · exact ite_err h
  | recn s b f n ih1 ih2 ih3 =>
    intro g e h
    rcases bind_inr h with h | ⟨x, _, h⟩
    · exact ih1 h
    rcases bind_inr h with h | ⟨y, _, h⟩
    · exact ih2 h
    rcases bind_inr h with h | ⟨z, _, h⟩
    · exact ih3 h
    · exact ite_err h
  | fold s b f n ih1 ih2 ih3 =>
    intro g e h
    rcases bind_inr h with h | ⟨x, _, h⟩
    · exact ih1 h
    rcases bind_inr h with h | ⟨y, _, h⟩
    · exact ih2 h
    rcases bind_inr h with h | ⟨z, _, h⟩
    · exact ih3 h
    · exact ite_err h
  | cons f a ih1 ih2 =>
    intro g e h
    rcases bind_inr h with h | ⟨x, _, h⟩
    · exact ih1 h
    rcases bind_inr h with h | ⟨y, _, h⟩
    · exact ih2 h
    · exact ite_err h
  | pair f a ih1 ih2 =>
    intro g e h
    rcases bind_inr h with h | ⟨x, _, h⟩
    · exact ih1 h
    rcases bind_inr h with h | ⟨y, _, h⟩
    · exact ih2 h
    · exact fit_err h
  | fst p ih =>
    intro g e h
    rcases bind_inr h with h | ⟨x, _, h⟩
    · exact ih h
    cases x <;> (cases h; try decide)
  | snd p ih =>
    intro g e h
    rcases bind_inr h with h | ⟨x, _, h⟩
    · exact ih h
    cases x <;> (cases h; try decide)
theorem fit_size {s u : Ty} (h : fit s = .inl u) : u.size ≤ 64 := by
  unfold fit at h
  split at h
  · cases h; assumption
  · cases h
/-- What is found is small. -/
theorem tyR_small (t : Tm) : ∀ {g : List Ty} {s : Ty}, (∀ u ∈ g, u.size ≤ 64) → t.small = true → tyR g t = .inl s → s.size ≤ 64 := by
  induction t with
  | var i =>
    intro g s hg _ h
    simp only [tyR] at h
    split at h
    · rename_i u hu
      cases h
      exact hg _ (List.mem_of_getElem? hu)
    · cases h
  | lam s b ih =>
    intro g u hg hs h
    obtain ⟨x, _, h2⟩ := bind_inl h
    exact fit_size h2
  | app f a ih1 ih2 =>
    intro g u hg hs h
    simp only [Tm.small, Bool.and_eq_true] at hs
    obtain ⟨x, h1, h2⟩ := bind_inl h
    obtain ⟨y, h3, h4⟩ := bind_inl h2
    cases x with
    | fn s v =>
      have := ih1 hg hs.1 h1
      simp only [Ty.size] at this
      simp only at h4
      split at h4
      · cases h4; omega
      · cases h4
    | _ => cases h4
  | zero => intro g s _ _ h; cases h; decide
  | nil => intro g s _ _ h; cases h; decide
  | unit => intro g s _ _ h; cases h; decide
  | succ a ih =>
    intro g u hg hs h
    obtain ⟨x, h1, h2⟩ := bind_inl h
    split at h2
    · cases h2; decide
    · cases h2
  | recn s b f n ih1 ih2 ih3 =>
    intro g u hg hs h
    simp only [Tm.small, Bool.and_eq_true, decide_eq_true_eq] at hs
    obtain ⟨x, h1, h2⟩ := bind_inl h
    obtain ⟨y, h3, h4⟩ := bind_inl h2
    obtain ⟨z, h5, h6⟩ := bind_inl h4
    split at h6
    · cases h6; exact hs.1.1.1
    · cases h6
  | cons b f ih1 ih2 =>
    intro g u hg hs h
    obtain ⟨x, h1, h2⟩ := bind_inl h
    obtain ⟨y, h3, h4⟩ := bind_inl h2
    split at h4
    · cases h4; decide
    · cases h4
  | fold s b f n ih1 ih2 ih3 =>
    intro g u hg hs h
    simp only [Tm.small, Bool.and_eq_true, decide_eq_true_eq] at hs
    obtain ⟨x, h1, h2⟩ := bind_inl h
    obtain ⟨y, h3, h4⟩ := bind_inl h2
    obtain ⟨z, h5, h6⟩ := bind_inl h4
    split at h6
    · cases h6; exact hs.1.1.1
    · cases h6
  | pair a b ih1 ih2 =>
    intro g u hg hs h
    obtain ⟨x, h1, h2⟩ := bind_inl h
    obtain ⟨y, h3, h4⟩ := bind_inl h2
    exact fit_size h4
  | fst p ih =>
    intro g u hg hs h
    obtain ⟨x, h1, h2⟩ := bind_inl h
    cases x with
    | pair s v =>
      have := ih hg hs h1
      simp only [Ty.size] at this
      simp only at h2; cases h2; omega
    | _ => cases h2
  | snd p ih =>
    intro g u hg hs h
    obtain ⟨x, h1, h2⟩ := bind_inl h
    cases x with
    | pair s v =>
      have := ih hg hs h1
      simp only [Ty.size] at this
      simp only at h2; cases h2; omega
    | _ => cases h2
end T
end Go.Proofs.YthclcchnodjjpaaGreatDoor
