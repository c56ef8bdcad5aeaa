/- PURE THEORY 2: evaluation with work and ticks (big steps), that it has one result, and that the result is the meaning. -/
import Derived.Test.YtgkdehfbeejlfaaTh1
set_option linter.unusedVariables false
namespace Go.Proofs.Ytgkdehfbeejlfaa
namespace T

/-- What the machine reckons with. -/
inductive V where
  | num (n : Nat)
  | list (l : List Nat)
  | pair (a b : V)
  | unit
  | clo (b : Tm) (e : List V)

/-- What is to be done: a term with the values of its variables; n rounds of a recursion; a list gone through from its end. -/
inductive Job where
  | tm (e : List V) (t : Tm)
  | recn (f : V) (r : V) (n : Nat)
  | fold (f : V) (r : V) (l : List Nat)

/-- 'Ev j v n k': the job j returns v, with n units of work and k ticks. -/
inductive Ev : Job → V → Nat → Nat → Prop where
  | var {e : List V} {i : Nat} {v : V} : e[i]? = some v → Ev (.tm e (.var i)) v 1 0
  | lam {e : List V} {s : Ty} {b : Tm} : Ev (.tm e (.lam s b)) (.clo b e) 1 0
  | app {e e' : List V} {f a b : Tm} {u v : V} {n1 n2 n3 k1 k2 k3 : Nat} : Ev (.tm e f) (.clo b e') n1 k1 → Ev (.tm e a) u n2 k2 → Ev (.tm (u :: e') b) v n3 k3 →
      Ev (.tm e (.app f a)) v (1 + n1 + n2 + n3) (k1 + k2 + k3 + 1)
  | zero {e : List V} : Ev (.tm e .zero) (.num 0) 1 0
  | succ {e : List V} {a : Tm} {m n k : Nat} : Ev (.tm e a) (.num m) n k → Ev (.tm e (.succ a)) (.num (m + 1)) (1 + n) k
  | recn {e : List V} {s : Ty} {b f a : Tm} {vb vf v : V} {m n1 n2 n3 n4 k1 k2 k3 k4 : Nat} : Ev (.tm e b) vb n1 k1 → Ev (.tm e f) vf n2 k2 → Ev (.tm e a) (.num m) n3 k3 → Ev (.recn vf vb m) v n4 k4 →
      Ev (.tm e (.recn s b f a)) v (1 + n1 + n2 + n3 + n4) (k1 + k2 + k3 + k4)
  | nil {e : List V} : Ev (.tm e .nil) (.list []) 1 0
  | cons {e : List V} {h l : Tm} {m : Nat} {ms : List Nat} {n1 n2 k1 k2 : Nat} : Ev (.tm e h) (.num m) n1 k1 → Ev (.tm e l) (.list ms) n2 k2 → Ev (.tm e (.cons h l)) (.list (m :: ms)) (1 + n1 + n2) (k1 + k2)
  | fold {e : List V} {s : Ty} {b f a : Tm} {vb vf v : V} {l : List Nat} {n1 n2 n3 n4 k1 k2 k3 k4 : Nat} : Ev (.tm e b) vb n1 k1 → Ev (.tm e f) vf n2 k2 → Ev (.tm e a) (.list l) n3 k3 → Ev (.fold vf vb l) v n4 k4 →
      Ev (.tm e (.fold s b f a)) v (1 + n1 + n2 + n3 + n4) (k1 + k2 + k3 + k4)
  | pair {e : List V} {a b : Tm} {u v : V} {n1 n2 k1 k2 : Nat} : Ev (.tm e a) u n1 k1 → Ev (.tm e b) v n2 k2 → Ev (.tm e (.pair a b)) (.pair u v) (1 + n1 + n2) (k1 + k2)
  | fst {e : List V} {p : Tm} {u v : V} {n k : Nat} : Ev (.tm e p) (.pair u v) n k → Ev (.tm e (.fst p)) u (1 + n) k
  | snd {e : List V} {p : Tm} {u v : V} {n k : Nat} : Ev (.tm e p) (.pair u v) n k → Ev (.tm e (.snd p)) v (1 + n) k
  | unit {e : List V} : Ev (.tm e .unit) .unit 1 0
  | rec0 {f r : V} : Ev (.recn f r 0) r 0 0
  | recS {b c : Tm} {e e' : List V} {r u v : V} {m n1 n2 n3 k1 k2 k3 : Nat} : Ev (.recn (.clo b e) r m) u n1 k1 → Ev (.tm (.num m :: e) b) (.clo c e') n2 k2 → Ev (.tm (u :: e') c) v n3 k3 →
      Ev (.recn (.clo b e) r (m + 1)) v (n1 + n2 + n3) (k1 + k2 + k3 + 1)
  | fold0 {f r : V} : Ev (.fold f r []) r 0 0
  | foldS {b c c' : Tm} {e e' e'' : List V} {r u v : V} {h : Nat} {t : List Nat} {n1 n2 n3 n4 k1 k2 k3 k4 : Nat} : Ev (.fold (.clo b e) r t) u n1 k1 → Ev (.tm (.num h :: e) b) (.clo c e') n2 k2 →
      Ev (.tm (.list t :: e') c) (.clo c' e'') n3 k3 → Ev (.tm (u :: e'') c') v n4 k4 → Ev (.fold (.clo b e) r (h :: t)) v (n1 + n2 + n3 + n4) (k1 + k2 + k3 + k4 + 1)

theorem Ev.work_pos {e : List V} {t : Tm} {v : V} {n k : Nat} (h : Ev (.tm e t) v n k) : 0 < n := by cases h <;> omega

theorem Ev.det {j : Job} {v : V} {n k : Nat} (h : Ev j v n k) : ∀ {v' : V} {n' k' : Nat}, Ev j v' n' k' → v = v' ∧ n = n' ∧ k = k' := by
  induction h with
  | var h => intro v' n' k' h'; cases h' with | var h' => rw [h] at h'; exact ⟨Option.some.inj h', rfl, rfl⟩
  | lam => intro v' n' k' h'; cases h'; exact ⟨rfl, rfl, rfl⟩
  | app _ _ _ ih1 ih2 ih3 =>
    intro v' n' k' h'; cases h' with
    | app h1 h2 h3 =>
      obtain ⟨e1, rfl, rfl⟩ := ih1 h1; cases e1
      obtain ⟨rfl, rfl, rfl⟩ := ih2 h2
      obtain ⟨rfl, rfl, rfl⟩ := ih3 h3
      exact ⟨rfl, rfl, rfl⟩
  | zero => intro v' n' k' h'; cases h'; exact ⟨rfl, rfl, rfl⟩
  | succ _ ih => intro v' n' k' h'; cases h' with | succ h1 => obtain ⟨e1, rfl, rfl⟩ := ih h1; cases e1; exact ⟨rfl, rfl, rfl⟩
  | recn _ _ _ _ ih1 ih2 ih3 ih4 =>
    intro v' n' k' h'; cases h' with
    | recn h1 h2 h3 h4 =>
      obtain ⟨rfl, rfl, rfl⟩ := ih1 h1
      obtain ⟨rfl, rfl, rfl⟩ := ih2 h2
      obtain ⟨e1, rfl, rfl⟩ := ih3 h3; cases e1
      obtain ⟨rfl, rfl, rfl⟩ := ih4 h4
      exact ⟨rfl, rfl, rfl⟩
  | nil => intro v' n' k' h'; cases h'; exact ⟨rfl, rfl, rfl⟩
  | cons _ _ ih1 ih2 =>
    intro v' n' k' h'; cases h' with
    | cons h1 h2 =>
      obtain ⟨e1, rfl, rfl⟩ := ih1 h1; cases e1
      obtain ⟨e1, rfl, rfl⟩ := ih2 h2; cases e1
      exact ⟨rfl, rfl, rfl⟩
  | fold _ _ _ _ ih1 ih2 ih3 ih4 =>
    intro v' n' k' h'; cases h' with
    | fold h1 h2 h3 h4 =>
      obtain ⟨rfl, rfl, rfl⟩ := ih1 h1
      obtain ⟨rfl, rfl, rfl⟩ := ih2 h2
      obtain ⟨e1, rfl, rfl⟩ := ih3 h3; cases e1
      obtain ⟨rfl, rfl, rfl⟩ := ih4 h4
      exact ⟨rfl, rfl, rfl⟩
  | pair _ _ ih1 ih2 =>
    intro v' n' k' h'; cases h' with
    | pair h1 h2 =>
      obtain ⟨rfl, rfl, rfl⟩ := ih1 h1
      obtain ⟨rfl, rfl, rfl⟩ := ih2 h2
      exact ⟨rfl, rfl, rfl⟩
  | fst _ ih => intro v' n' k' h'; cases h' with | fst h1 => obtain ⟨e1, rfl, rfl⟩ := ih h1; cases e1; exact ⟨rfl, rfl, rfl⟩
  | snd _ ih => intro v' n' k' h'; cases h' with | snd h1 => obtain ⟨e1, rfl, rfl⟩ := ih h1; cases e1; exact ⟨rfl, rfl, rfl⟩
  | unit => intro v' n' k' h'; cases h'; exact ⟨rfl, rfl, rfl⟩
  | rec0 => intro v' n' k' h'; cases h'; exact ⟨rfl, rfl, rfl⟩
  | recS _ _ _ ih1 ih2 ih3 =>
    intro v' n' k' h'; cases h' with
    | recS h1 h2 h3 =>
      obtain ⟨rfl, rfl, rfl⟩ := ih1 h1
      obtain ⟨e1, rfl, rfl⟩ := ih2 h2; cases e1
      obtain ⟨rfl, rfl, rfl⟩ := ih3 h3
      exact ⟨rfl, rfl, rfl⟩
  | fold0 => intro v' n' k' h'; cases h'; exact ⟨rfl, rfl, rfl⟩
  | foldS _ _ _ _ ih1 ih2 ih3 ih4 =>
    intro v' n' k' h'; cases h' with
    | foldS h1 h2 h3 h4 =>
      obtain ⟨rfl, rfl, rfl⟩ := ih1 h1
      obtain ⟨e1, rfl, rfl⟩ := ih2 h2; cases e1
      obtain ⟨e1, rfl, rfl⟩ := ih3 h3; cases e1
      obtain ⟨rfl, rfl, rfl⟩ := ih4 h4
      exact ⟨rfl, rfl, rfl⟩

/-! ### Values mean what they mean -/
/-- 'Means s v d': the value v of the machine means d, in the type s. -/
def Means : (s : Ty) → V → s.den → Prop
  | .nat, v, d => v = .num d
  | .list, v, d => v = .list d
  | .unit, v, _ => v = .unit
  | .pair s u, v, d => ∃ a b, v = .pair a b ∧ Means s a d.1 ∧ Means u b d.2
  | .fn s u, v, d => ∃ b e, v = .clo b e ∧ ∀ a x, Means s a x → ∀ r n k, Ev (.tm (a :: e) b) r n k → Means u r (d x)

def EnvMeans : (g : List Ty) → List V → Env g → Prop
  | [], _, _ => True
  | s :: g, e, ρ => ∃ v e', e = v :: e' ∧ Means s v ρ.1 ∧ EnvMeans g e' ρ.2

theorem look_means {g : List Ty} {i : Nat} {s : Ty} {p : Env g → s.den} (h : Look g i s p) : ∀ {e : List V} {ρ : Env g} {v : V}, EnvMeans g e ρ → e[i]? = some v → Means s v (p ρ) := by
  induction h with
  | here => intro e ρ v he hv; obtain ⟨v', e', rfl, h1, _⟩ := he; simp at hv; subst hv; exact h1
  | there _ ih => intro e ρ v he hv; obtain ⟨v', e', rfl, _, h2⟩ := he; simp at hv; exact ih h2 hv

theorem rec_means {s : Ty} {vf vb : V} {df : (Ty.fn .nat (.fn s s)).den} {db : s.den} (hf : Means (.fn .nat (.fn s s)) vf df) (hb : Means s vb db) :
    ∀ m {v : V} {n k : Nat}, Ev (.recn vf vb m) v n k → Means s v (natRec db df m) := by
  intro m
  induction m with
  | zero => intro v n k h; cases h; exact hb
  | succ m ih =>
    intro v n k h
    cases h with
    | recS h1 h2 h3 =>
      obtain ⟨_, _, he, hq⟩ := hf; cases he
      obtain ⟨_, _, he, hq2⟩ := hq _ m (by simp [Means]) _ _ _ h2; cases he
      exact hq2 _ _ (ih h1) _ _ _ h3

theorem fold_means {s : Ty} {vf vb : V} {df : (Ty.fn .nat (.fn .list (.fn s s))).den} {db : s.den} (hf : Means (.fn .nat (.fn .list (.fn s s))) vf df) (hb : Means s vb db) :
    ∀ l {v : V} {n k : Nat}, Ev (.fold vf vb l) v n k → Means s v (listRec db df l) := by
  intro l
  induction l with
  | nil => intro v n k h; cases h; exact hb
  | cons a l ih =>
    intro v n k h
    cases h with
    | foldS h1 h2 h3 h4 =>
      obtain ⟨_, _, he, hq⟩ := hf; cases he
      obtain ⟨_, _, he, hq2⟩ := hq _ a (by simp [Means]) _ _ _ h2; cases he
      obtain ⟨_, _, he, hq3⟩ := hq2 _ l (by simp [Means]) _ _ _ h3; cases he
      exact hq3 _ _ (ih h1) _ _ _ h4

/-- Evaluation returns the meaning. -/
theorem Sem.means {g : List Ty} {t : Tm} {s : Ty} {d : Env g → s.den} (h : Sem g t s d) : ∀ {e : List V} {ρ : Env g} {v : V} {n k : Nat}, EnvMeans g e ρ → Ev (.tm e t) v n k → Means s v (d ρ) := by
  induction h with
  | var hl => intro e ρ v n k he h; cases h with | var h => exact look_means hl he h
  | lam _ ih => intro e ρ v n k he h; cases h; exact ⟨_, _, rfl, fun a x hx r n k h => ih ⟨_, _, rfl, hx, he⟩ h⟩
  | app _ _ ih1 ih2 =>
    intro e ρ v n k he h; cases h with
    | app h1 h2 h3 => obtain ⟨_, _, e1, hq⟩ := ih1 he h1; cases e1; exact hq _ _ (ih2 he h2) _ _ _ h3
  | zero => intro e ρ v n k he h; cases h; rfl
  | succ _ ih => intro e ρ v n k he h; cases h with | succ h => have := ih he h; simp only [Means, V.num.injEq] at this ⊢; rw [this]
  | recn _ _ _ ih1 ih2 ih3 =>
    intro e ρ v n k he h; cases h with
    | recn h1 h2 h3 h4 =>
      have := ih3 he h3; simp only [Means, V.num.injEq] at this
      dsimp only; rw [← this]; exact rec_means (ih2 he h2) (ih1 he h1) _ h4
  | nil => intro e ρ v n k he h; cases h; rfl
  | cons _ _ ih1 ih2 =>
    intro e ρ v n k he h; cases h with
    | cons h1 h2 => have a := ih1 he h1; have b := ih2 he h2; simp only [Means, V.num.injEq, V.list.injEq] at a b ⊢; rw [a, b]
  | fold _ _ _ ih1 ih2 ih3 =>
    intro e ρ v n k he h; cases h with
    | fold h1 h2 h3 h4 =>
      have := ih3 he h3; simp only [Means, V.list.injEq] at this
      dsimp only; rw [← this]; exact fold_means (ih2 he h2) (ih1 he h1) _ h4
  | pair _ _ ih1 ih2 => intro e ρ v n k he h; cases h with | pair h1 h2 => exact ⟨_, _, rfl, ih1 he h1, ih2 he h2⟩
  | fst _ ih => intro e ρ v n k he h; cases h with | fst h => obtain ⟨_, _, e1, h1, _⟩ := ih he h; cases e1; exact h1
  | snd _ ih => intro e ρ v n k he h; cases h with | snd h => obtain ⟨_, _, e1, _, h1⟩ := ih he h; cases e1; exact h1
  | unit => intro e ρ v n k he h; cases h; rfl

/-! ### Types without functions -/
def Ty.data : Ty → Bool
  | .nat | .list | .unit => true
  | .pair a b => a.data && b.data
  | .fn _ _ => false

/-- The machine's value of a meaning, at a type without functions. -/
def back : (s : Ty) → s.den → V
  | .nat, d => .num d
  | .list, d => .list d
  | .unit, _ => .unit
  | .pair s u, d => .pair (back s d.1) (back u d.2)
  | .fn _ _, _ => .unit

theorem means_data : ∀ (s : Ty) (v : V) (d : s.den), s.data = true → (Means s v d ↔ v = back s d)
  | .nat, v, d, _ => Iff.rfl
  | .list, v, d, _ => Iff.rfl
  | .unit, v, d, _ => Iff.rfl
  | .fn _ _, _, _, h => by simp [Ty.data] at h
  | .pair s u, v, d, h => by
    simp only [Ty.data, Bool.and_eq_true] at h
    simp only [Means, back]
    constructor
    · rintro ⟨a, b, rfl, h1, h2⟩
      rw [(means_data s a _ h.1).1 h1, (means_data u b _ h.2).1 h2]
    · rintro rfl
      exact ⟨_, _, rfl, (means_data s _ _ h.1).2 rfl, (means_data u _ _ h.2).2 rfl⟩

theorem back_inj : ∀ (s : Ty) (d d' : s.den), s.data = true → back s d = back s d' → d = d'
  | .nat, d, d', _, h => by simpa [back] using h
  | .list, d, d', _, h => by simpa [back] using h
  | .unit, _, _, _, _ => rfl
  | .fn _ _, _, _, h, _ => by simp [Ty.data] at h
  | .pair s u, d, d', hd, h => by
    simp only [Ty.data, Bool.and_eq_true] at hd
    simp only [back, V.pair.injEq] at h
    exact Prod.ext (back_inj s _ _ hd.1 h.1) (back_inj u _ _ hd.2 h.2)

end T
end Go.Proofs.Ytgkdehfbeejlfaa
