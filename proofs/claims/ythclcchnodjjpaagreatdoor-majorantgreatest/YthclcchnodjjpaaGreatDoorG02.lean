/- A part of the proof: Th5, Th6. -/
import Derived.Test.YthclcchnodjjpaaGreatDoorG01
/- PURE THEORY 5: terms that count: their types, and that they return the value and the ticks of an evaluation. -/
set_option linter.unusedVariables false
set_option linter.unusedSimpArgs false
namespace Go.Proofs.YthclcchnodjjpaaGreatDoor
namespace T

@[reducible] def Ty.cnt : Ty → Ty
  | .nat => .nat
  | .list => .list
  | .unit => .unit
  | .pair a b => .pair a.cnt b.cnt
  | .fn a b => .fn a.cnt (.pair .nat b.cnt)

@[reducible] def wt (s : Ty) : Ty := .pair .nat s.cnt
def letIn (s : Ty) (a b : Tm) : Tm := .app (.lam s b) a
def add2 (a b : Tm) : Tm := .app (.app plus a) b
def f1 (i : Nat) : Tm := .fst (.var i)
def f2 (i : Nat) : Tm := .snd (.var i)
def Ty.left : Ty → Ty
  | .pair a _ => a
  | .fn a _ => a
  | t => t
def Ty.right : Ty → Ty
  | .pair _ b => b
  | .fn _ b => b
  | t => t

def tickRec (s : Ty) : Tm :=
  letIn (wt (.fn s s)) (.app (f2 3) (.var 1)) (letIn (wt s) (.app (f2 0) (f2 1)) (.pair (.succ (add2 (add2 (f1 2) (f1 1)) (f1 0))) (f2 0)))
def tickFold (s : Ty) : Tm :=
  letIn (wt (.fn .list (.fn s s))) (.app (f2 4) (.var 2)) (letIn (wt (.fn s s)) (.app (f2 0) (.var 2)) (letIn (wt s) (.app (f2 0) (f2 2))
    (.pair (.succ (add2 (add2 (add2 (f1 3) (f1 2)) (f1 1)) (f1 0))) (f2 0))))
def rounds (s : Ty) (whole : Tm) (a b c : Tm × Ty) : Tm :=
  letIn (wt a.2) a.1 (letIn (wt b.2) (b.1.lift 1 0) (letIn (wt c.2) (c.1.lift 2 0) (letIn (wt s) whole (.pair (add2 (add2 (add2 (f1 3) (f1 2)) (f1 1)) (f1 0)) (f2 0)))))

/-- The term that counts, and the type of what is counted. -/
def tk : List Ty → Tm → Tm × Ty
  | g, .var i => (.pair .zero (.var i), g.getD i .nat)
  | g, .lam s b => (.pair .zero (.lam s.cnt (tk (s :: g) b).1), .fn s (tk (s :: g) b).2)
  | g, .app f a => (letIn (wt (tk g f).2) (tk g f).1 (letIn (wt (tk g a).2) ((tk g a).1.lift 1 0) (letIn (wt (tk g f).2.right) (.app (f2 1) (f2 0)) (.pair (.succ (add2 (add2 (f1 2) (f1 1)) (f1 0))) (f2 0)))), (tk g f).2.right)
  | _, .zero => (.pair .zero .zero, .nat)
  | g, .succ a => (letIn (wt (tk g a).2) (tk g a).1 (.pair (f1 0) (.succ (f2 0))), .nat)
  | g, .recn s b f n => (rounds s (.recn (wt s) (.pair .zero (f2 2)) (.lam .nat (.lam (wt s) (tickRec s))) (f2 0)) (tk g b) (tk g f) (tk g n), s)
  | _, .nil => (.pair .zero .nil, .list)
  | g, .cons h l => (letIn (wt (tk g h).2) (tk g h).1 (letIn (wt (tk g l).2) ((tk g l).1.lift 1 0) (.pair (add2 (f1 1) (f1 0)) (.cons (f2 1) (f2 0)))), .list)
  | g, .fold s b f n => (rounds s (.fold (wt s) (.pair .zero (f2 2)) (.lam .nat (.lam .list (.lam (wt s) (tickFold s)))) (f2 0)) (tk g b) (tk g f) (tk g n), s)
  | g, .pair a b => (letIn (wt (tk g a).2) (tk g a).1 (letIn (wt (tk g b).2) ((tk g b).1.lift 1 0) (.pair (add2 (f1 1) (f1 0)) (.pair (f2 1) (f2 0)))), .pair (tk g a).2 (tk g b).2)
  | g, .fst a => (letIn (wt (tk g a).2) (tk g a).1 (.pair (f1 0) (.fst (f2 0))), (tk g a).2.left)
  | g, .snd a => (letIn (wt (tk g a).2) (tk g a).1 (.pair (f1 0) (.snd (f2 0))), (tk g a).2.right)
  | _, .unit => (.pair .zero .unit, .unit)

theorem Sem.letIn {g : List Ty} {s u : Ty} {a b : Tm} {e : Env g → s.den} {d : Env (s :: g) → u.den} (h1 : Sem g a s e) (h2 : Sem (s :: g) b u d) : Sem g (letIn s a b) u (fun ρ => d (e ρ, ρ)) := .app (.lam h2) h1
theorem Sem.add2 {g : List Ty} {a b : Tm} {d e : Env g → Nat} (h1 : Sem g a .nat d) (h2 : Sem g b .nat e) : Sem g (add2 a b) .nat (fun ρ => d ρ + e ρ) := .app (.app (sem_plus g) h1) h2
theorem Sem.f1 {g : List Ty} {i : Nat} {s u : Ty} {p : Env g → (Ty.pair s u).den} (h : Look g i (.pair s u) p) : Sem g (f1 i) s (fun ρ => (p ρ).1) := .fst (.var h)
theorem Sem.f2 {g : List Ty} {i : Nat} {s u : Ty} {p : Env g → (Ty.pair s u).den} (h : Look g i (.pair s u) p) : Sem g (f2 i) u (fun ρ => (p ρ).2) := .snd (.var h)

/-! ### The meaning of the terms that count -/
/-- 'Tk s d v': what counts means d where the machine has v. -/
def Tk : (s : Ty) → s.cnt.den → V → Prop
  | .nat, d, v => v = .num d
  | .list, d, v => v = .list d
  | .unit, _, v => v = .unit
  | .pair s u, d, v => ∃ a b, v = .pair a b ∧ Tk s d.1 a ∧ Tk u d.2 b
  | .fn s u, d, v => ∃ b e, v = .clo b e ∧ ∀ x a, Tk s x a → ∀ r n k, Ev (.tm (a :: e) b) r n k → (d x).1 = k ∧ Tk u (d x).2 r

def EnvTk : (g : List Ty) → Env (g.map Ty.cnt) → List V → Prop
  | [], _, _ => True
  | s :: g, ρ, e => ∃ v e', e = v :: e' ∧ Tk s ρ.1 v ∧ EnvTk g ρ.2 e'

theorem look_cnt {g : List Ty} {i : Nat} {s : Ty} {p : Env g → s.den} (h : Look g i s p) :
    g.getD i .nat = s ∧ ∃ p', Look (g.map Ty.cnt) i s.cnt p' ∧ ∀ ρ e v, EnvTk g ρ e → e[i]? = some v → Tk s (p' ρ) v := by
  induction h with
  | here => exact ⟨rfl, _, .here, fun ρ e v h hv => by obtain ⟨v', e', rfl, h1, _⟩ := h; simp at hv; subst hv; exact h1⟩
  | there _ ih =>
    obtain ⟨e0, p', h1, h2⟩ := ih
    exact ⟨by simpa using e0, _, .there h1, fun ρ e v h hv => by obtain ⟨v', e', rfl, _, h3⟩ := h; simp at hv; exact h2 _ _ _ h3 hv⟩

def stepRec {α : Type} (f : Nat → Nat × (α → Nat × α)) (n : Nat) (c : Nat × α) : Nat × α := (Nat.succ ((c.1 + (f n).1) + ((f n).2 c.2).1), ((f n).2 c.2).2)
def stepFold {α : Type} (f : Nat → Nat × (List Nat → Nat × (α → Nat × α))) (h : Nat) (t : List Nat) (c : Nat × α) : Nat × α :=
  (Nat.succ (((c.1 + (f h).1) + ((f h).2 t).1) + (((f h).2 t).2 c.2).1), (((f h).2 t).2 c.2).2)

theorem tk_rec {s : Ty} {b : s.cnt.den} {vb vf : V} {f : (Ty.fn .nat (.fn s s)).cnt.den} (hb : Tk s b vb) (hf : Tk (.fn .nat (.fn s s)) f vf) :
    ∀ m {v : V} {n k : Nat}, Ev (.recn vf vb m) v n k → (natRec ((0, b) : Nat × s.cnt.den) (stepRec f) m).1 = k ∧ Tk s (natRec ((0, b) : Nat × s.cnt.den) (stepRec f) m).2 v := by
  intro m
  induction m with
  | zero => intro v n k h; cases h; exact ⟨rfl, hb⟩
  | succ m ih =>
    intro v n k h
    cases h with
    | recS h1 h2 h3 =>
      obtain ⟨_, _, he, hq⟩ := hf; cases he
      obtain ⟨i1, i2⟩ := ih h1
      obtain ⟨q1, _, _, he, hq2⟩ := hq m _ rfl _ _ _ h2; cases he
      obtain ⟨q3, q4⟩ := hq2 _ _ i2 _ _ _ h3
      refine ⟨?_, q4⟩
      simp only [natRec, stepRec, i1, q1, q3]

theorem tk_fold {s : Ty} {b : s.cnt.den} {vb vf : V} {f : (Ty.fn .nat (.fn .list (.fn s s))).cnt.den} (hb : Tk s b vb) (hf : Tk (.fn .nat (.fn .list (.fn s s))) f vf) :
    ∀ l {v : V} {n k : Nat}, Ev (.fold vf vb l) v n k → (listRec ((0, b) : Nat × s.cnt.den) (stepFold f) l).1 = k ∧ Tk s (listRec ((0, b) : Nat × s.cnt.den) (stepFold f) l).2 v := by
  intro l
  induction l with
  | nil => intro v n k h; cases h; exact ⟨rfl, hb⟩
  | cons a l ih =>
    intro v n k h
    cases h with
    | foldS h1 h2 h3 h4 =>
      obtain ⟨_, _, he, hq⟩ := hf; cases he
      obtain ⟨i1, i2⟩ := ih h1
      obtain ⟨q1, _, _, he, hq2⟩ := hq a _ rfl _ _ _ h2; cases he
      obtain ⟨q3, _, _, he, hq4⟩ := hq2 l _ rfl _ _ _ h3; cases he
      obtain ⟨q5, q6⟩ := hq4 _ _ i2 _ _ _ h4
      refine ⟨?_, q6⟩
      simp only [listRec, stepFold, i1, q1, q3, q5]

theorem sem_tickRec {s : Ty} {g : List Ty} {p r : Ty} :
    Sem (wt s :: .nat :: r :: wt (.fn .nat (.fn s s)) :: p :: g) (tickRec s) (wt s) (fun ρ => stepRec ρ.2.2.2.1.2 ρ.2.1 ρ.1) := by
  refine Sem.letIn (g := wt s :: .nat :: r :: wt (.fn .nat (.fn s s)) :: p :: g) (s := wt (.fn s s)) (u := wt s) (e := fun ρ => ρ.2.2.2.1.2 ρ.2.1) (d := fun ρ => (Nat.succ ((ρ.2.1.1 + ρ.1.1) + (ρ.1.2 ρ.2.1.2).1), (ρ.1.2 ρ.2.1.2).2)) (.app (.f2 (.there (.there (.there .here)))) (.var (.there .here))) ?_
  refine Sem.letIn (g := wt (.fn s s) :: wt s :: .nat :: r :: wt (.fn .nat (.fn s s)) :: p :: g) (s := wt s) (u := wt s) (e := fun ρ => ρ.1.2 ρ.2.1.2) (d := fun ρ => (Nat.succ ((ρ.2.2.1.1 + ρ.2.1.1) + ρ.1.1), ρ.1.2)) (.app (.f2 .here) (.f2 (.there .here))) ?_
  exact .pair (.succ (.add2 (.add2 (.f1 (.there (.there .here))) (.f1 (.there .here))) (.f1 .here))) (.f2 .here)

theorem sem_tickFold {s : Ty} {g : List Ty} {p r : Ty} :
    Sem (wt s :: .list :: .nat :: r :: wt (.fn .nat (.fn .list (.fn s s))) :: p :: g) (tickFold s) (wt s) (fun ρ => stepFold ρ.2.2.2.2.1.2 ρ.2.2.1 ρ.2.1 ρ.1) := by
  refine Sem.letIn (g := wt s :: .list :: .nat :: r :: wt (.fn .nat (.fn .list (.fn s s))) :: p :: g) (s := wt (.fn .list (.fn s s))) (u := wt s) (e := fun ρ => ρ.2.2.2.2.1.2 ρ.2.2.1) (d := fun ρ => (Nat.succ (((ρ.2.1.1 + ρ.1.1) + (ρ.1.2 ρ.2.2.1).1) + ((ρ.1.2 ρ.2.2.1).2 ρ.2.1.2).1), ((ρ.1.2 ρ.2.2.1).2 ρ.2.1.2).2)) (.app (.f2 (.there (.there (.there (.there .here))))) (.var (.there (.there .here)))) ?_
  refine Sem.letIn (g := wt (.fn .list (.fn s s)) :: wt s :: .list :: .nat :: r :: wt (.fn .nat (.fn .list (.fn s s))) :: p :: g) (s := wt (.fn s s)) (u := wt s) (e := fun ρ => ρ.1.2 ρ.2.2.1) (d := fun ρ => (Nat.succ (((ρ.2.2.1.1 + ρ.2.1.1) + ρ.1.1) + (ρ.1.2 ρ.2.2.1.2).1), (ρ.1.2 ρ.2.2.1.2).2)) (.app (.f2 .here) (.var (.there (.there .here)))) ?_
  refine Sem.letIn (g := wt (.fn s s) :: wt (.fn .list (.fn s s)) :: wt s :: .list :: .nat :: r :: wt (.fn .nat (.fn .list (.fn s s))) :: p :: g) (s := wt s) (u := wt s) (e := fun ρ => ρ.1.2 ρ.2.2.1.2) (d := fun ρ => (Nat.succ (((ρ.2.2.2.1.1 + ρ.2.2.1.1) + ρ.2.1.1) + ρ.1.1), ρ.1.2)) (.app (.f2 .here) (.f2 (.there (.there .here)))) ?_
  exact .pair (.succ (.add2 (.add2 (.add2 (.f1 (.there (.there (.there .here)))) (.f1 (.there (.there .here)))) (.f1 (.there .here))) (.f1 .here))) (.f2 .here)

theorem sem_rounds {g : List Ty} {s a b c : Ty} {x y z w : Tm} {dx : Env g → (wt a).den} {dy : Env g → (wt b).den} {dz : Env g → (wt c).den} {dw : Env (wt c :: wt b :: wt a :: g) → (wt s).den}
    (hx : Sem g x (wt a) dx) (hy : Sem g y (wt b) dy) (hz : Sem g z (wt c) dz) (hw : Sem (wt c :: wt b :: wt a :: g) w (wt s) dw) :
    Sem g (rounds s w (x, a) (y, b) (z, c)) (wt s) (fun ρ => ((((dx ρ).1 + (dy ρ).1) + (dz ρ).1) + (dw (dz ρ, dy ρ, dx ρ, ρ)).1, (dw (dz ρ, dy ρ, dx ρ, ρ)).2)) := by
  refine Sem.letIn (g := g) (s := wt a) (u := wt s) (e := dx) (d := fun ρ => (((ρ.1.1 + (dy ρ.2).1) + (dz ρ.2).1) + (dw (dz ρ.2, dy ρ.2, ρ.1, ρ.2)).1, (dw (dz ρ.2, dy ρ.2, ρ.1, ρ.2)).2)) hx ?_
  refine Sem.letIn (g := wt a :: g) (s := wt b) (u := wt s) (e := fun ρ => dy ρ.2) (d := fun ρ => (((ρ.2.1.1 + ρ.1.1) + (dz ρ.2.2).1) + (dw (dz ρ.2.2, ρ.1, ρ.2.1, ρ.2.2)).1, (dw (dz ρ.2.2, ρ.1, ρ.2.1, ρ.2.2)).2)) (hy.up (h := [wt a])) ?_
  refine Sem.letIn (g := wt b :: wt a :: g) (s := wt c) (u := wt s) (e := fun ρ => dz ρ.2.2) (d := fun ρ => (((ρ.2.2.1.1 + ρ.2.1.1) + ρ.1.1) + (dw ρ).1, (dw ρ).2)) (hz.up (h := [wt b, wt a])) ?_
  refine Sem.letIn (g := wt c :: wt b :: wt a :: g) (s := wt s) (u := wt s) (e := dw) (d := fun ρ => (((ρ.2.2.2.1.1 + ρ.2.2.1.1) + ρ.2.1.1) + ρ.1.1, ρ.1.2)) hw ?_
  exact .pair (.add2 (.add2 (.add2 (.f1 (.there (.there (.there .here)))) (.f1 (.there (.there .here)))) (.f1 (.there .here))) (.f1 .here)) (.f2 .here)

/-- THE THEOREM OF TICKS. -/
theorem Sem.tick {g : List Ty} {t : Tm} {s : Ty} {d : Env g → s.den} (h : Sem g t s d) :
    (tk g t).2 = s ∧ ∃ d' : Env (g.map Ty.cnt) → (wt s).den, Sem (g.map Ty.cnt) (tk g t).1 (wt s) d' ∧
      ∀ ρ e, EnvTk g ρ e → ∀ v n k, Ev (.tm e t) v n k → (d' ρ).1 = k ∧ Tk s (d' ρ).2 v := by
  induction h with
  | var hl =>
    obtain ⟨e0, p, h1, h2⟩ := look_cnt hl
    exact ⟨e0, _, .pair .zero (.var h1), fun ρ e he v n k h => by cases h with | var h => exact ⟨rfl, h2 _ _ _ he h⟩⟩
  | lam _ ih =>
    obtain ⟨e0, d', h1, h2⟩ := ih
    refine ⟨by simp only [tk, e0], _, .pair .zero (.lam h1), fun ρ e he v n k h => ?_⟩
    cases h
    exact ⟨rfl, _, _, rfl, fun x a hx r n k h => h2 (x, ρ) _ ⟨_, _, rfl, hx, he⟩ _ _ _ h⟩
  | @app g s u f a _ _ _ _ ih1 ih2 =>
    obtain ⟨e1, df, h1, h2⟩ := ih1
    obtain ⟨e2, da, g1, g2⟩ := ih2
    refine ⟨by simp only [tk, e1, Ty.right], fun ρ => (Nat.succ (((df ρ).1 + (da ρ).1) + ((df ρ).2 (da ρ).2).1), ((df ρ).2 (da ρ).2).2), ?_, ?_⟩
    · simp only [tk, e1, e2, Ty.right]
      refine Sem.letIn (g := g.map Ty.cnt) (s := wt (.fn s u)) (u := wt u) (e := df) (d := fun ρ => (Nat.succ ((ρ.1.1 + (da ρ.2).1) + (ρ.1.2 (da ρ.2).2).1), (ρ.1.2 (da ρ.2).2).2)) h1 ?_
      refine Sem.letIn (g := wt (.fn s u) :: g.map Ty.cnt) (s := wt s) (u := wt u) (e := fun ρ => da ρ.2) (d := fun ρ => (Nat.succ ((ρ.2.1.1 + ρ.1.1) + (ρ.2.1.2 ρ.1.2).1), (ρ.2.1.2 ρ.1.2).2)) (g1.up (h := [wt (.fn s u)])) ?_
      refine Sem.letIn (g := wt s :: wt (.fn s u) :: g.map Ty.cnt) (s := wt u) (u := wt u) (e := fun ρ => ρ.2.1.2 ρ.1.2) (d := fun ρ => (Nat.succ ((ρ.2.2.1.1 + ρ.2.1.1) + ρ.1.1), ρ.1.2)) (.app (.f2 (.there .here)) (.f2 .here)) ?_
      exact .pair (.succ (.add2 (.add2 (.f1 (.there (.there .here))) (.f1 (.there .here))) (.f1 .here))) (.f2 .here)
    · intro ρ e he v n k h
      cases h with
      | app q1 q2 q3 =>
        obtain ⟨r1, _, _, r2, r3⟩ := h2 ρ e he _ _ _ q1; cases r2
        obtain ⟨r4, r5⟩ := g2 ρ e he _ _ _ q2
        obtain ⟨r6, r7⟩ := r3 _ _ r5 _ _ _ q3
        exact ⟨by simp only [r1, r4, r6], r7⟩
  | zero => exact ⟨rfl, _, .pair .zero .zero, fun ρ e he v n k h => by cases h; exact ⟨rfl, rfl⟩⟩
  | @succ g a _ _ ih =>
    obtain ⟨e1, da, h1, h2⟩ := ih
    refine ⟨rfl, fun ρ => ((da ρ).1, Nat.succ (da ρ).2), ?_, ?_⟩
    · simp only [tk, e1]
      exact Sem.letIn (g := g.map Ty.cnt) (s := wt .nat) (u := wt .nat) (e := da) (d := fun ρ => (ρ.1.1, Nat.succ ρ.1.2)) h1 (.pair (.f1 .here) (.succ (.f2 .here)))
    · intro ρ e he v n k h
      cases h with
      | succ q =>
        obtain ⟨r1, r2⟩ := h2 ρ e he _ _ _ q
        exact ⟨r1, congrArg (fun x => V.num (Nat.succ x)) (V.num.inj r2)⟩
  | @recn g s b f n _ _ _ _ _ _ ih1 ih2 ih3 =>
    obtain ⟨e1, db, h1, h2⟩ := ih1
    obtain ⟨e2, df, g1, g2⟩ := ih2
    obtain ⟨e3, dn, k1, k2⟩ := ih3
    refine ⟨rfl, fun ρ => ((((db ρ).1 + (df ρ).1) + (dn ρ).1) + (natRec ((0, (db ρ).2) : Nat × s.cnt.den) (stepRec (df ρ).2) (dn ρ).2).1, (natRec ((0, (db ρ).2) : Nat × s.cnt.den) (stepRec (df ρ).2) (dn ρ).2).2), ?_, ?_⟩
    · simp only [tk]
      rw [show tk g b = ((tk g b).1, s) from Prod.ext rfl e1, show tk g f = ((tk g f).1, .fn .nat (.fn s s)) from Prod.ext rfl e2, show tk g n = ((tk g n).1, .nat) from Prod.ext rfl e3]
      refine sem_rounds (dw := fun ρ => natRec ((0, ρ.2.2.1.2) : Nat × s.cnt.den) (stepRec ρ.2.1.2) ρ.1.2) h1 g1 k1 ?_
      exact Sem.recn (s := wt s) (.pair .zero (.f2 (.there (.there .here)))) (.lam (.lam sem_tickRec)) (.f2 .here)
    · intro ρ e he v n k h
      cases h with
      | recn q1 q2 q3 q4 =>
        obtain ⟨r1, r2⟩ := h2 ρ e he _ _ _ q1
        obtain ⟨r3, r4⟩ := g2 ρ e he _ _ _ q2
        obtain ⟨r5, r6⟩ := k2 ρ e he _ _ _ q3
        simp only [Tk, V.num.injEq] at r6
        subst r6
        obtain ⟨r7, r8⟩ := tk_rec r2 r4 _ q4
        exact ⟨by simp only [r1, r3, r5, r7], r8⟩
  | nil => exact ⟨rfl, _, .pair .zero .nil, fun ρ e he v n k h => by cases h; exact ⟨rfl, rfl⟩⟩
  | @cons g a b _ _ _ _ ih1 ih2 =>
    obtain ⟨e1, da, h1, h2⟩ := ih1
    obtain ⟨e2, db, g1, g2⟩ := ih2
    refine ⟨rfl, fun ρ => ((da ρ).1 + (db ρ).1, List.cons (da ρ).2 (db ρ).2), ?_, ?_⟩
    · simp only [tk, e1, e2]
      refine Sem.letIn (g := g.map Ty.cnt) (s := wt .nat) (u := wt .list) (e := da) (d := fun ρ => (ρ.1.1 + (db ρ.2).1, List.cons ρ.1.2 (db ρ.2).2)) h1 ?_
      refine Sem.letIn (g := wt .nat :: g.map Ty.cnt) (s := wt .list) (u := wt .list) (e := fun ρ => db ρ.2) (d := fun ρ => (ρ.2.1.1 + ρ.1.1, List.cons ρ.2.1.2 ρ.1.2)) (g1.up (h := [wt .nat])) ?_
      exact .pair (.add2 (.f1 (.there .here)) (.f1 .here)) (.cons (.f2 (.there .here)) (.f2 .here))
    · intro ρ e he v n k h
      cases h with
      | cons q1 q2 =>
        obtain ⟨r1, r2⟩ := h2 ρ e he _ _ _ q1
        obtain ⟨r3, r4⟩ := g2 ρ e he _ _ _ q2
        have a1 := V.num.inj r2
        have a2 := V.list.inj r4
        subst a1 a2
        exact ⟨by simp only [r1, r3], rfl⟩
  | @fold g s b f n _ _ _ _ _ _ ih1 ih2 ih3 =>
    obtain ⟨e1, db, h1, h2⟩ := ih1
    obtain ⟨e2, df, g1, g2⟩ := ih2
    obtain ⟨e3, dn, k1, k2⟩ := ih3
    refine ⟨rfl, fun ρ => ((((db ρ).1 + (df ρ).1) + (dn ρ).1) + (listRec ((0, (db ρ).2) : Nat × s.cnt.den) (stepFold (df ρ).2) (dn ρ).2).1, (listRec ((0, (db ρ).2) : Nat × s.cnt.den) (stepFold (df ρ).2) (dn ρ).2).2), ?_, ?_⟩
    · simp only [tk]
      rw [show tk g b = ((tk g b).1, s) from Prod.ext rfl e1, show tk g f = ((tk g f).1, .fn .nat (.fn .list (.fn s s))) from Prod.ext rfl e2, show tk g n = ((tk g n).1, .list) from Prod.ext rfl e3]
      refine sem_rounds (dw := fun ρ => listRec ((0, ρ.2.2.1.2) : Nat × s.cnt.den) (stepFold ρ.2.1.2) ρ.1.2) h1 g1 k1 ?_
      exact Sem.fold (s := wt s) (.pair .zero (.f2 (.there (.there .here)))) (.lam (.lam (.lam sem_tickFold))) (.f2 .here)
    · intro ρ e he v n k h
      cases h with
      | fold q1 q2 q3 q4 =>
        obtain ⟨r1, r2⟩ := h2 ρ e he _ _ _ q1
        obtain ⟨r3, r4⟩ := g2 ρ e he _ _ _ q2
        obtain ⟨r5, r6⟩ := k2 ρ e he _ _ _ q3
        simp only [Tk, V.list.injEq] at r6
        subst r6
        obtain ⟨r7, r8⟩ := tk_fold r2 r4 _ q4
        exact ⟨by simp only [r1, r3, r5, r7], r8⟩
  | @pair g s u a b _ _ _ _ ih1 ih2 =>
    obtain ⟨e1, da, h1, h2⟩ := ih1
    obtain ⟨e2, db, g1, g2⟩ := ih2
    refine ⟨by simp only [tk, e1, e2], fun ρ => ((da ρ).1 + (db ρ).1, ((da ρ).2, (db ρ).2)), ?_, ?_⟩
    · simp only [tk, e1, e2]
      refine Sem.letIn (g := g.map Ty.cnt) (s := wt s) (u := wt (.pair s u)) (e := da) (d := fun ρ => (ρ.1.1 + (db ρ.2).1, (ρ.1.2, (db ρ.2).2))) h1 ?_
      refine Sem.letIn (g := wt s :: g.map Ty.cnt) (s := wt u) (u := wt (.pair s u)) (e := fun ρ => db ρ.2) (d := fun ρ => (ρ.2.1.1 + ρ.1.1, (ρ.2.1.2, ρ.1.2))) (g1.up (h := [wt s])) ?_
      exact .pair (.add2 (.f1 (.there .here)) (.f1 .here)) (.pair (.f2 (.there .here)) (.f2 .here))
    · intro ρ e he v n k h
      cases h with
      | pair q1 q2 =>
        obtain ⟨r1, r2⟩ := h2 ρ e he _ _ _ q1
        obtain ⟨r3, r4⟩ := g2 ρ e he _ _ _ q2
        exact ⟨by simp only [r1, r3], _, _, rfl, r2, r4⟩
  | @fst g s u a _ _ ih =>
    obtain ⟨e1, da, h1, h2⟩ := ih
    refine ⟨by simp only [tk, e1, Ty.left], fun ρ => ((da ρ).1, (da ρ).2.1), ?_, ?_⟩
    · simp only [tk, e1]
      exact Sem.letIn (g := g.map Ty.cnt) (s := wt (.pair s u)) (u := wt s) (e := da) (d := fun ρ => (ρ.1.1, ρ.1.2.1)) h1 (.pair (.f1 .here) (.fst (.f2 .here)))
    · intro ρ e he v n k h
      cases h with
      | fst q =>
        obtain ⟨r1, _, _, r2, r3, _⟩ := h2 ρ e he _ _ _ q
        cases r2
        exact ⟨r1, r3⟩
  | @snd g s u a _ _ ih =>
    obtain ⟨e1, da, h1, h2⟩ := ih
    refine ⟨by simp only [tk, e1, Ty.right], fun ρ => ((da ρ).1, (da ρ).2.2), ?_, ?_⟩
    · simp only [tk, e1]
      exact Sem.letIn (g := g.map Ty.cnt) (s := wt (.pair s u)) (u := wt u) (e := da) (d := fun ρ => (ρ.1.1, ρ.1.2.2)) h1 (.pair (.f1 .here) (.snd (.f2 .here)))
    · intro ρ e he v n k h
      cases h with
      | snd q =>
        obtain ⟨r1, _, _, r2, _, r3⟩ := h2 ρ e he _ _ _ q
        cases r2
        exact ⟨r1, r3⟩
  | unit => exact ⟨rfl, _, .pair .zero .unit, fun ρ e he v n k h => by cases h; exact ⟨rfl, rfl⟩⟩

/-- At types without functions what counts means just the value. -/
theorem Ty.cnt_data : ∀ s : Ty, s.data = true → s.cnt = s
  | .nat, _ | .list, _ | .unit, _ => rfl
  | .fn _ _, h => by simp [data] at h
  | .pair a b, h => by simp only [data, Bool.and_eq_true] at h; simp [cnt, cnt_data a h.1, cnt_data b h.2]

theorem tk_data : ∀ (s : Ty) (d : s.cnt.den) (v : V), s.data = true → Tk s d v → v = back s.cnt d
  | .nat, _, _, _, h => h
  | .list, _, _, _, h => h
  | .unit, _, _, _, h => h
  | .fn _ _, _, _, h, _ => by simp [Ty.data] at h
  | .pair a b, d, v, hd, h => by
    simp only [Ty.data, Bool.and_eq_true] at hd
    obtain ⟨x, y, rfl, h1, h2⟩ := h
    rw [tk_data a _ _ hd.1 h1, tk_data b _ _ hd.2 h2]
    rfl

end T
end Go.Proofs.YthclcchnodjjpaaGreatDoor
/- PURE THEORY 6: types are found, with a limit on their sizes; what is found is a type, and what has a type is found or is too large. -/
set_option linter.unusedVariables false
set_option linter.unusedSimpArgs false
namespace Go.Proofs.YthclcchnodjjpaaGreatDoor
namespace T

/-- A type, or the number of an error. -/
abbrev Res := Ty ⊕ Int

def Res.bind (r : Res) (f : Ty → Res) : Res := match r with
  | .inl s => f s
  | .inr e => .inr e

def fit (s : Ty) : Res := if s.size ≤ 64 then .inl s else .inr 4

def tyR : List Ty → Tm → Res
  | g, .var i => match g[i]? with
    | some s => .inl s
    | none => .inr 6
  | g, .lam s b => (tyR (s :: g) b).bind fun u => fit (.fn s u)
  | g, .app f a => (tyR g f).bind fun x => (tyR g a).bind fun y => match x with
    | .fn s u => if s = y then .inl u else .inr 7
    | _ => .inr 7
  | _, .zero => .inl .nat
  | g, .succ a => (tyR g a).bind fun x => if x = .nat then .inl .nat else .inr 7
  | g, .recn s b f n => (tyR g b).bind fun x => (tyR g f).bind fun y => (tyR g n).bind fun z => if x = s ∧ y = .fn .nat (.fn s s) ∧ z = .nat then .inl s else .inr 7
  | _, .nil => .inl .list
  | g, .cons h l => (tyR g h).bind fun x => (tyR g l).bind fun y => if x = .nat ∧ y = .list then .inl .list else .inr 7
  | g, .fold s b f n => (tyR g b).bind fun x => (tyR g f).bind fun y => (tyR g n).bind fun z => if x = s ∧ y = .fn .nat (.fn .list (.fn s s)) ∧ z = .list then .inl s else .inr 7
  | g, .pair a b => (tyR g a).bind fun x => (tyR g b).bind fun y => fit (.pair x y)
  | g, .fst p => (tyR g p).bind fun x => match x with
    | .pair s _ => .inl s
    | _ => .inr 7
  | g, .snd p => (tyR g p).bind fun x => match x with
    | .pair _ u => .inl u
    | _ => .inr 7
  | _, .unit => .inl .unit

theorem bind_inl {r : Res} {f : Ty → Res} {s : Ty} (h : r.bind f = .inl s) : ∃ x, r = .inl x ∧ f x = .inl s := by
  cases r with
  | inl x => exact ⟨x, rfl, h⟩
  | inr e => simp [Res.bind] at h

theorem ite_inl {c : Prop} [Decidable c] {r : Res} {e : Int} {s : Ty} (h : (if c then r else .inr e) = .inl s) : c ∧ r = .inl s := by
  by_cases hc : c
  · rw [if_pos hc] at h; exact ⟨hc, h⟩
  · rw [if_neg hc] at h; cases h

theorem fit_inl {s u : Ty} (h : fit s = .inl u) : s = u := by
  unfold fit at h
  split at h
  · exact Sum.inl.inj h
  · cases h

theorem look_of : ∀ (g : List Ty) (i : Nat) (s : Ty), g[i]? = some s → ∃ p, Look g i s p
  | [], i, s, h => by simp at h
  | u :: g, 0, s, h => by simp at h; subst h; exact ⟨_, .here⟩
  | u :: g, i + 1, s, h => by simp at h; obtain ⟨p, hp⟩ := look_of g i s h; exact ⟨_, .there hp⟩

theorem look_get {g : List Ty} {i : Nat} {s : Ty} {p : Env g → s.den} (h : Look g i s p) : g[i]? = some s := by
  induction h with
  | here => rfl
  | there _ ih => simpa using ih

theorem sem_of_tyR (t : Tm) : ∀ {g : List Ty} {s : Ty}, tyR g t = .inl s → ∃ d, Sem g t s d := by
  induction t with
  | var i =>
    intro g s h
    simp only [tyR] at h
    split at h
    · rename_i s' hs; cases h; obtain ⟨p, hp⟩ := look_of g i s hs; exact ⟨p, .var hp⟩
    · cases h
  | lam s b ih =>
    intro g u h
    obtain ⟨x, hx, h⟩ := bind_inl h
    obtain ⟨d, hd⟩ := ih hx
    obtain rfl := fit_inl h
    exact ⟨_, .lam hd⟩
  | app f a ih1 ih2 =>
    intro g u h
    obtain ⟨x, hx, h⟩ := bind_inl h
    obtain ⟨y, hy, h⟩ := bind_inl h
    obtain ⟨d, hd⟩ := ih1 hx
    obtain ⟨e, he⟩ := ih2 hy
    cases x with
    | fn s v =>
      simp only at h
      split at h
      · rename_i hs; subst hs; cases h; exact ⟨_, .app hd he⟩
      · cases h
    | _ => cases h
  | zero => intro g s h; cases h; exact ⟨_, .zero⟩
  | succ a ih =>
    intro g s h
    obtain ⟨x, hx, h⟩ := bind_inl h
    obtain ⟨d, hd⟩ := ih hx
    split at h
    · rename_i hs; subst hs; cases h; exact ⟨_, .succ hd⟩
    · cases h
  | recn s b f n ih1 ih2 ih3 =>
    intro g u h
    obtain ⟨x, hx, h⟩ := bind_inl h
    obtain ⟨y, hy, h⟩ := bind_inl h
    obtain ⟨z, hz, h⟩ := bind_inl h
    obtain ⟨d, hd⟩ := ih1 hx
    obtain ⟨e, he⟩ := ih2 hy
    obtain ⟨k, hk⟩ := ih3 hz
    obtain ⟨hc, hu⟩ := ite_inl h
    clear h
    obtain ⟨rfl, rfl, rfl⟩ := hc
    cases hu; exact ⟨_, .recn hd he hk⟩
  | nil => intro g s h; cases h; exact ⟨_, .nil⟩
  | cons a b ih1 ih2 =>
    intro g u h
    obtain ⟨x, hx, h⟩ := bind_inl h
    obtain ⟨y, hy, h⟩ := bind_inl h
    obtain ⟨d, hd⟩ := ih1 hx
    obtain ⟨e, he⟩ := ih2 hy
    obtain ⟨hc, hu⟩ := ite_inl h
    clear h
    obtain ⟨rfl, rfl⟩ := hc
    cases hu; exact ⟨_, .cons hd he⟩
  | fold s b f n ih1 ih2 ih3 =>
    intro g u h
    obtain ⟨x, hx, h⟩ := bind_inl h
    obtain ⟨y, hy, h⟩ := bind_inl h
    obtain ⟨z, hz, h⟩ := bind_inl h
    obtain ⟨d, hd⟩ := ih1 hx
    obtain ⟨e, he⟩ := ih2 hy
    obtain ⟨k, hk⟩ := ih3 hz
    obtain ⟨hc, hu⟩ := ite_inl h
    clear h
    obtain ⟨rfl, rfl, rfl⟩ := hc
    cases hu; exact ⟨_, .fold hd he hk⟩
  | pair a b ih1 ih2 =>
    intro g u h
    obtain ⟨x, hx, h⟩ := bind_inl h
    obtain ⟨y, hy, h⟩ := bind_inl h
    obtain ⟨d, hd⟩ := ih1 hx
    obtain ⟨e, he⟩ := ih2 hy
    obtain rfl := fit_inl h
    exact ⟨_, .pair hd he⟩
  | fst p ih =>
    intro g u h
    obtain ⟨x, hx, h⟩ := bind_inl h
    obtain ⟨d, hd⟩ := ih hx
    cases x with
    | pair s v => simp only at h; cases h; exact ⟨_, .fst hd⟩
    | _ => cases h
  | snd p ih =>
    intro g u h
    obtain ⟨x, hx, h⟩ := bind_inl h
    obtain ⟨d, hd⟩ := ih hx
    cases x with
    | pair s v => simp only at h; cases h; exact ⟨_, .snd hd⟩
    | _ => cases h
  | unit => intro g s h; cases h; exact ⟨_, .unit⟩

theorem bind_or {r : Res} {f : Ty → Res} {s u : Ty} (h1 : r = .inl s ∨ r = .inr 4) (h2 : f s = .inl u ∨ f s = .inr 4) : r.bind f = .inl u ∨ r.bind f = .inr 4 := by
  rcases h1 with h1 | h1
  · rw [h1]; exact h2
  · rw [h1]; exact .inr rfl

theorem fit_or (s : Ty) : fit s = .inl s ∨ fit s = .inr 4 := by
  unfold fit; split
  · exact .inl rfl
  · exact .inr rfl

theorem Sem.tyR {g : List Ty} {t : Tm} {s : Ty} {d : Env g → s.den} (h : Sem g t s d) : T.tyR g t = .inl s ∨ T.tyR g t = .inr 4 := by
  induction h with
  | var hl => left; simp only [T.tyR, look_get hl]
  | lam _ ih => exact bind_or ih (fit_or _)
  | app _ _ ih1 ih2 => exact bind_or ih1 (bind_or ih2 (.inl (by simp)))
  | zero => exact .inl rfl
  | succ _ ih => exact bind_or ih (.inl rfl)
  | recn _ _ _ ih1 ih2 ih3 => exact bind_or ih1 (bind_or ih2 (bind_or ih3 (.inl (by simp))))
  | nil => exact .inl rfl
  | cons _ _ ih1 ih2 => exact bind_or ih1 (bind_or ih2 (.inl (by simp)))
  | fold _ _ _ ih1 ih2 ih3 => exact bind_or ih1 (bind_or ih2 (bind_or ih3 (.inl (by simp))))
  | pair _ _ ih1 ih2 => exact bind_or ih1 (bind_or ih2 (fit_or _))
  | fst _ ih => exact bind_or ih (.inl rfl)
  | snd _ ih => exact bind_or ih (.inl rfl)
  | unit => exact .inl rfl

end T
end Go.Proofs.YthclcchnodjjpaaGreatDoor
