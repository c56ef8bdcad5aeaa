/- PURE THEORY 1: Goedel's T with lists: types, terms, lifting, putting in, a set-theoretic meaning (Sem), and that lifting, putting in and single steps keep the meaning. No program in sight. -/
set_option linter.unusedVariables false
namespace Go.Proofs.Ytgkdehfbeejlfaa
namespace T

inductive Ty where
  | nat | list | unit
  | pair (a b : Ty)
  | fn (a b : Ty)
  deriving DecidableEq

inductive Tm where
  | var (i : Nat)
  | lam (s : Ty) (b : Tm)
  | app (f a : Tm)
  | zero
  | succ (n : Tm)
  | recn (s : Ty) (b f n : Tm)
  | nil
  | cons (h l : Tm)
  | fold (s : Ty) (b f l : Tm)
  | pair (a b : Tm)
  | fst (p : Tm)
  | snd (p : Tm)
  | unit
  deriving DecidableEq

def Ty.size : Ty → Nat
  | .nat | .list | .unit => 1
  | .pair a b => a.size + b.size + 1
  | .fn a b => a.size + b.size + 1

def Tm.size : Tm → Nat
  | .var _ | .zero | .nil | .unit => 1
  | .lam _ b => b.size + 1
  | .app f a => f.size + a.size + 1
  | .succ n => n.size + 1
  | .recn _ b f n => b.size + f.size + n.size + 1
  | .cons h l => h.size + l.size + 1
  | .fold _ b f l => b.size + f.size + l.size + 1
  | .pair a b => a.size + b.size + 1
  | .fst p => p.size + 1
  | .snd p => p.size + 1

theorem Ty.size_pos (t : Ty) : 0 < t.size := by cases t <;> simp [Ty.size]
theorem Tm.size_pos (t : Tm) : 0 < t.size := by cases t <;> simp [Tm.size]

/-- Variables from k on become greater by 'n'. -/
def Tm.lift (n : Nat) : Nat → Tm → Tm
  | k, .var i => if k ≤ i then .var (i + n) else .var i
  | k, .lam s b => .lam s (b.lift n (k + 1))
  | k, .app f a => .app (f.lift n k) (a.lift n k)
  | _, .zero => .zero
  | k, .succ a => .succ (a.lift n k)
  | k, .recn s b f a => .recn s (b.lift n k) (f.lift n k) (a.lift n k)
  | _, .nil => .nil
  | k, .cons h l => .cons (h.lift n k) (l.lift n k)
  | k, .fold s b f l => .fold s (b.lift n k) (f.lift n k) (l.lift n k)
  | k, .pair a b => .pair (a.lift n k) (b.lift n k)
  | k, .fst p => .fst (p.lift n k)
  | k, .snd p => .snd (p.lift n k)
  | _, .unit => .unit

/-- A term in place of the variable k. -/
def Tm.put (x : Tm) : Nat → Tm → Tm
  | k, .var i => if i = k then x.lift k 0 else if k < i then .var (i - 1) else .var i
  | k, .lam s b => .lam s (Tm.put x (k + 1) b)
  | k, .app f a => .app (Tm.put x k f) (Tm.put x k a)
  | _, .zero => .zero
  | k, .succ a => .succ (Tm.put x k a)
  | k, .recn s b f a => .recn s (Tm.put x k b) (Tm.put x k f) (Tm.put x k a)
  | _, .nil => .nil
  | k, .cons h l => .cons (Tm.put x k h) (Tm.put x k l)
  | k, .fold s b f l => .fold s (Tm.put x k b) (Tm.put x k f) (Tm.put x k l)
  | k, .pair a b => .pair (Tm.put x k a) (Tm.put x k b)
  | k, .fst p => .fst (Tm.put x k p)
  | k, .snd p => .snd (Tm.put x k p)
  | _, .unit => .unit

/-! ### The meaning -/
@[reducible] def Ty.den : Ty → Type
  | .nat => Nat
  | .list => List Nat
  | .unit => Unit
  | .pair a b => a.den × b.den
  | .fn a b => a.den → b.den

@[reducible] def Env : List Ty → Type
  | [] => Unit
  | s :: g => s.den × Env g

inductive Look : (g : List Ty) → Nat → (s : Ty) → (Env g → s.den) → Prop where
  | here {s : Ty} {g : List Ty} : Look (s :: g) 0 s (fun ρ => ρ.1)
  | there {g : List Ty} {i : Nat} {s u : Ty} {p : Env g → s.den} : Look g i s p → Look (u :: g) (i + 1) s (fun ρ => p ρ.2)

def natRec {α : Type} (b : α) (f : Nat → α → α) : Nat → α
  | 0 => b
  | n + 1 => f n (natRec b f n)

def listRec {α : Type} (b : α) (f : Nat → List Nat → α → α) : List Nat → α
  | [] => b
  | h :: t => f h t (listRec b f t)

inductive Sem : (g : List Ty) → Tm → (s : Ty) → (Env g → s.den) → Prop where
  | var {g : List Ty} {i : Nat} {s : Ty} {p : Env g → s.den} : Look g i s p → Sem g (.var i) s p
  | lam {g : List Ty} {s u : Ty} {b : Tm} {d : Env (s :: g) → u.den} : Sem (s :: g) b u d → Sem g (.lam s b) (.fn s u) (fun ρ x => d (x, ρ))
  | app {g : List Ty} {s u : Ty} {f a : Tm} {d : Env g → (Ty.fn s u).den} {e : Env g → s.den} : Sem g f (.fn s u) d → Sem g a s e → Sem g (.app f a) u (fun ρ => d ρ (e ρ))
  | zero {g : List Ty} : Sem g .zero .nat (fun _ => (0 : Nat))
  | succ {g : List Ty} {a : Tm} {d : Env g → Ty.nat.den} : Sem g a .nat d → Sem g (.succ a) .nat (fun ρ => Nat.succ (d ρ))
  | recn {g : List Ty} {s : Ty} {b f n : Tm} {db : Env g → s.den} {df : Env g → (Ty.fn .nat (.fn s s)).den} {dn : Env g → Ty.nat.den} :
      Sem g b s db → Sem g f (.fn .nat (.fn s s)) df → Sem g n .nat dn → Sem g (.recn s b f n) s (fun ρ => natRec (db ρ) (df ρ) (dn ρ))
  | nil {g : List Ty} : Sem g .nil .list (fun _ => ([] : List Nat))
  | cons {g : List Ty} {h l : Tm} {dh : Env g → Ty.nat.den} {dl : Env g → Ty.list.den} : Sem g h .nat dh → Sem g l .list dl → Sem g (.cons h l) .list (fun ρ => List.cons (dh ρ) (dl ρ))
  | fold {g : List Ty} {s : Ty} {b f l : Tm} {db : Env g → s.den} {df : Env g → (Ty.fn .nat (.fn .list (.fn s s))).den} {dl : Env g → Ty.list.den} :
      Sem g b s db → Sem g f (.fn .nat (.fn .list (.fn s s))) df → Sem g l .list dl → Sem g (.fold s b f l) s (fun ρ => listRec (db ρ) (df ρ) (dl ρ))
  | pair {g : List Ty} {s u : Ty} {a b : Tm} {da : Env g → s.den} {db : Env g → u.den} : Sem g a s da → Sem g b u db → Sem g (.pair a b) (.pair s u) (fun ρ => (da ρ, db ρ))
  | fst {g : List Ty} {s u : Ty} {p : Tm} {d : Env g → (Ty.pair s u).den} : Sem g p (.pair s u) d → Sem g (.fst p) s (fun ρ => (d ρ).1)
  | snd {g : List Ty} {s u : Ty} {p : Tm} {d : Env g → (Ty.pair s u).den} : Sem g p (.pair s u) d → Sem g (.snd p) u (fun ρ => (d ρ).2)
  | unit {g : List Ty} : Sem g .unit .unit (fun _ => ())

/-! ### Renaming -/
def upR (r : Nat → Nat) : Nat → Nat
  | 0 => 0
  | i + 1 => r i + 1

def Tm.ren : (Nat → Nat) → Tm → Tm
  | r, .var i => .var (r i)
  | r, .lam s b => .lam s (b.ren (upR r))
  | r, .app f a => .app (f.ren r) (a.ren r)
  | _, .zero => .zero
  | r, .succ a => .succ (a.ren r)
  | r, .recn s b f a => .recn s (b.ren r) (f.ren r) (a.ren r)
  | _, .nil => .nil
  | r, .cons h l => .cons (h.ren r) (l.ren r)
  | r, .fold s b f l => .fold s (b.ren r) (f.ren r) (l.ren r)
  | r, .pair a b => .pair (a.ren r) (b.ren r)
  | r, .fst p => .fst (p.ren r)
  | r, .snd p => .snd (p.ren r)
  | _, .unit => .unit

theorem Sem.ren {g : List Ty} {t : Tm} {s : Ty} {d : Env g → s.den} (h : Sem g t s d) :
    ∀ {g' : List Ty} (r : Nat → Nat) (m : Env g' → Env g), (∀ i u p, Look g i u p → Look g' (r i) u (fun ρ => p (m ρ))) → Sem g' (t.ren r) s (fun ρ => d (m ρ)) := by
  induction h with
  | var hl => intro g' r m hm; exact .var (hm _ _ _ hl)
  | @lam g s u b d _ ih =>
    intro g' r m hm
    refine Sem.lam (ih (g' := s :: g') (upR r) (fun ρ => (ρ.1, m ρ.2)) ?_)
    intro i v p hl
    cases hl with
    | here => exact .here
    | there hl => exact .there (hm _ _ _ hl)
  | app _ _ ih1 ih2 => intro g' r m hm; exact .app (ih1 r m hm) (ih2 r m hm)
  | zero => intro g' r m hm; exact .zero
  | succ _ ih => intro g' r m hm; exact .succ (ih r m hm)
  | recn _ _ _ ih1 ih2 ih3 => intro g' r m hm; exact .recn (ih1 r m hm) (ih2 r m hm) (ih3 r m hm)
  | nil => intro g' r m hm; exact .nil
  | cons _ _ ih1 ih2 => intro g' r m hm; exact .cons (ih1 r m hm) (ih2 r m hm)
  | fold _ _ _ ih1 ih2 ih3 => intro g' r m hm; exact .fold (ih1 r m hm) (ih2 r m hm) (ih3 r m hm)
  | pair _ _ ih1 ih2 => intro g' r m hm; exact .pair (ih1 r m hm) (ih2 r m hm)
  | fst _ ih => intro g' r m hm; exact .fst (ih r m hm)
  | snd _ ih => intro g' r m hm; exact .snd (ih r m hm)
  | unit => intro g' r m hm; exact .unit

theorem Tm.ren_congr (t : Tm) : ∀ {r r' : Nat → Nat}, (∀ i, r i = r' i) → t.ren r = t.ren r' := by
  induction t with
  | lam s b ih =>
    intro r r' h
    simp only [Tm.ren, Tm.lam.injEq, true_and]
    refine ih ?_
    intro i; cases i with
    | zero => rfl
    | succ i => simp [upR, h i]
  | app f a ih1 ih2 => intro r r' h; simp only [Tm.ren, ih1 h, ih2 h]
  | recn s b f n ih1 ih2 ih3 => intro r r' h; simp only [Tm.ren, ih1 h, ih2 h, ih3 h]
  | fold s b f n ih1 ih2 ih3 => intro r r' h; simp only [Tm.ren, ih1 h, ih2 h, ih3 h]
  | cons a b ih1 ih2 => intro r r' h; simp only [Tm.ren, ih1 h, ih2 h]
  | pair a b ih1 ih2 => intro r r' h; simp only [Tm.ren, ih1 h, ih2 h]
  | succ a ih => intro r r' h; simp only [Tm.ren, ih h]
  | fst a ih => intro r r' h; simp only [Tm.ren, ih h]
  | snd a ih => intro r r' h; simp only [Tm.ren, ih h]
  | var i => intro r r' h; simp only [Tm.ren, h]
  | _ => intro r r' h; rfl

theorem Tm.ren_ren (t : Tm) : ∀ (r r' : Nat → Nat), (t.ren r).ren r' = t.ren (fun i => r' (r i)) := by
  induction t with
  | lam s b ih =>
    intro r r'
    simp only [Tm.ren, ih]
    refine congrArg _ (Tm.ren_congr b ?_)
    intro i; cases i <;> rfl
  | _ => intro r r'; simp_all only [Tm.ren]

theorem Tm.lift_ren (n : Nat) (t : Tm) : ∀ k, t.lift n k = t.ren (fun i => if k ≤ i then i + n else i) := by
  induction t with
  | var i => intro k; simp only [Tm.lift, Tm.ren]; split <;> rfl
  | lam s b ih =>
    intro k
    simp only [Tm.lift, Tm.ren, ih]
    refine congrArg _ (Tm.ren_congr b ?_)
    intro i; cases i with
    | zero => simp [upR]
    | succ i => simp only [upR]; by_cases h : k ≤ i <;> simp [h] <;> omega
  | _ => intro k; simp_all only [Tm.lift, Tm.ren]

/-- Without the first ones. -/
def dropFront : (h g : List Ty) → Env (h ++ g) → Env g
  | [], _, ρ => ρ
  | _ :: h, g, ρ => dropFront h g ρ.2

/-- Without those in the middle. -/
def dropMid : (a h g : List Ty) → Env (a ++ (h ++ g)) → Env (a ++ g)
  | [], h, g, ρ => dropFront h g ρ
  | _ :: a, h, g, ρ => (ρ.1, dropMid a h g ρ.2)

theorem look_front {u : Ty} : ∀ (h g : List Ty) (i : Nat) (p : Env g → u.den), Look g i u p → Look (h ++ g) (i + h.length) u (fun ρ => p (dropFront h g ρ))
  | [], g, i, p, hl => hl
  | v :: h, g, i, p, hl => Look.there (u := v) (look_front h g i p hl)

theorem look_dropMid {u : Ty} : ∀ (a h g : List Ty) (i : Nat) (p : Env (a ++ g) → u.den), Look (a ++ g) i u p → Look (a ++ (h ++ g)) (if a.length ≤ i then i + h.length else i) u (fun ρ => p (dropMid a h g ρ))
  | [], h, g, i, p, hl => by
    simp only [List.length_nil, Nat.zero_le, if_true]
    exact look_front h g i p hl
  | v :: a, h, g, i, p, hl => by
    cases hl with
    | here => simpa [dropMid] using (Look.here : Look (u :: (a ++ (h ++ g))) 0 u _)
    | @there _ i _ _ p hl =>
      have := look_dropMid a h g i p hl
      have e : (if (v :: a).length ≤ i + 1 then i + 1 + h.length else i + 1) = (if a.length ≤ i then i + h.length else i) + 1 := by
        simp only [List.length_cons]; split <;> split <;> omega
      rw [e]
      exact Look.there (u := v) this

theorem Sem.lift {a h g : List Ty} {t : Tm} {s : Ty} {d : Env (a ++ g) → s.den} (hs : Sem (a ++ g) t s d) : Sem (a ++ (h ++ g)) (t.lift h.length a.length) s (fun ρ => d (dropMid a h g ρ)) := by
  rw [Tm.lift_ren]
  exact hs.ren _ _ (fun i u p hl => look_dropMid a h g i p hl)

theorem Sem.up {h g : List Ty} {t : Tm} {s : Ty} {d : Env g → s.den} (hs : Sem g t s d) : Sem (h ++ g) (t.lift h.length 0) s (fun ρ => d (dropFront h g ρ)) :=
  Sem.lift (a := []) (h := h) (g := g) hs

/-! ### Putting in -/
/-- The environment in which a value stands behind k others. -/
def insAt {u : Ty} : (a g : List Ty) → (Env g → u.den) → Env (a ++ g) → Env (a ++ (u :: g))
  | [], _, e, ρ => (e ρ, ρ)
  | _ :: a, g, e, ρ => (ρ.1, insAt a g e ρ.2)

theorem look_insAt {u v : Ty} {x : Tm} {g : List Ty} {e : Env g → u.den} (hx : Sem g x u e) : ∀ (a : List Ty) (i : Nat) (p : Env (a ++ (u :: g)) → v.den), Look (a ++ (u :: g)) i v p →
    Sem (a ++ g) (if i = a.length then x.lift a.length 0 else if a.length < i then .var (i - 1) else .var i) v (fun ρ => p (insAt a g e ρ))
  | [], i, p, hl => by
    cases hl with
    | here => exact hx.up (h := [])
    | there hl => exact Sem.var hl
  | w :: a, i, p, hl => by
    cases hl with
    | here => simpa [insAt] using (Sem.var Look.here : Sem (v :: (a ++ g)) (.var 0) v _)
    | @there _ i _ _ p hl =>
      have := look_insAt hx a i p hl
      have h2 := this.up (h := [w])
      simp only [List.length_cons, List.length_nil, Nat.zero_add] at h2 ⊢
      have e2 : (if i + 1 = a.length + 1 then x.lift (a.length + 1) 0 else if a.length + 1 < i + 1 then Tm.var (i + 1 - 1) else Tm.var (i + 1)) = (if i = a.length then x.lift a.length 0 else if a.length < i then Tm.var (i - 1) else Tm.var i).lift 1 0 := by
        by_cases h1 : i = a.length
        · simp only [h1, if_true]
          rw [Tm.lift_ren, Tm.lift_ren, Tm.lift_ren, Tm.ren_ren]
          refine Tm.ren_congr x ?_
          intro i; simp; omega
        · by_cases h3 : a.length < i
          · simp [h1, h3, Tm.lift]; omega
          · simp [h1, h3, Tm.lift]
      rw [e2]
      exact h2

theorem Sem.put {u : Ty} {x : Tm} {g : List Ty} {e : Env g → u.den} (hx : Sem g x u e) {t : Tm} {g0 : List Ty} {s : Ty} {d : Env g0 → s.den} (h : Sem g0 t s d) :
    ∀ a (hg : g0 = a ++ (u :: g)), Sem (a ++ g) (Tm.put x a.length t) s (fun ρ => d (hg ▸ insAt a g e ρ)) := by
  induction h with
  | var hl => intro a hg; subst hg; exact look_insAt hx a _ _ hl
  | @lam g1 s1 u1 b d _ ih => intro a hg; subst hg; exact Sem.lam (ih (s1 :: a) rfl)
  | app _ _ ih1 ih2 => intro a hg; exact .app (ih1 a hg) (ih2 a hg)
  | zero => intro a hg; exact .zero
  | succ _ ih => intro a hg; exact .succ (ih a hg)
  | recn _ _ _ ih1 ih2 ih3 => intro a hg; exact .recn (ih1 a hg) (ih2 a hg) (ih3 a hg)
  | nil => intro a hg; exact .nil
  | cons _ _ ih1 ih2 => intro a hg; exact .cons (ih1 a hg) (ih2 a hg)
  | fold _ _ _ ih1 ih2 ih3 => intro a hg; exact .fold (ih1 a hg) (ih2 a hg) (ih3 a hg)
  | pair _ _ ih1 ih2 => intro a hg; exact .pair (ih1 a hg) (ih2 a hg)
  | fst _ ih => intro a hg; exact .fst (ih a hg)
  | snd _ ih => intro a hg; exact .snd (ih a hg)
  | unit => intro a hg; exact .unit

theorem Sem.put0 {u : Ty} {x : Tm} {g : List Ty} {e : Env g → u.den} (hx : Sem g x u e) {t : Tm} {s : Ty} {d : Env (u :: g) → s.den} (h : Sem (u :: g) t s d) : Sem g (Tm.put x 0 t) s (fun ρ => d (e ρ, ρ)) :=
  Sem.put hx h [] rfl

/-! ### Single steps -/
inductive Red : Tm → Tm → Prop where
  | beta {s : Ty} {b a : Tm} : Red (.app (.lam s b) a) (Tm.put a 0 b)
  | rec0 {s : Ty} {b f : Tm} : Red (.recn s b f .zero) b
  | recS {s : Ty} {b f n : Tm} : Red (.recn s b f (.succ n)) (.app (.app f n) (.recn s b f n))
  | fold0 {s : Ty} {b f : Tm} : Red (.fold s b f .nil) b
  | foldS {s : Ty} {b f h l : Tm} : Red (.fold s b f (.cons h l)) (.app (.app (.app f h) l) (.fold s b f l))
  | fst {a b : Tm} : Red (.fst (.pair a b)) a
  | snd {a b : Tm} : Red (.snd (.pair a b)) b
  | lam {s : Ty} {b b' : Tm} : Red b b' → Red (.lam s b) (.lam s b')
  | app1 {f f' a : Tm} : Red f f' → Red (.app f a) (.app f' a)
  | app2 {f a a' : Tm} : Red a a' → Red (.app f a) (.app f a')
  | succ {a a' : Tm} : Red a a' → Red (.succ a) (.succ a')
  | rec1 {s : Ty} {b b' f n : Tm} : Red b b' → Red (.recn s b f n) (.recn s b' f n)
  | rec2 {s : Ty} {b f f' n : Tm} : Red f f' → Red (.recn s b f n) (.recn s b f' n)
  | rec3 {s : Ty} {b f n n' : Tm} : Red n n' → Red (.recn s b f n) (.recn s b f n')
  | cons1 {h h' l : Tm} : Red h h' → Red (.cons h l) (.cons h' l)
  | cons2 {h l l' : Tm} : Red l l' → Red (.cons h l) (.cons h l')
  | fold1 {s : Ty} {b b' f n : Tm} : Red b b' → Red (.fold s b f n) (.fold s b' f n)
  | fold2 {s : Ty} {b f f' n : Tm} : Red f f' → Red (.fold s b f n) (.fold s b f' n)
  | fold3 {s : Ty} {b f n n' : Tm} : Red n n' → Red (.fold s b f n) (.fold s b f n')
  | pair1 {a a' b : Tm} : Red a a' → Red (.pair a b) (.pair a' b)
  | pair2 {a b b' : Tm} : Red b b' → Red (.pair a b) (.pair a b')
  | fst1 {a a' : Tm} : Red a a' → Red (.fst a) (.fst a')
  | snd1 {a a' : Tm} : Red a a' → Red (.snd a) (.snd a')

theorem Sem.red {t t' : Tm} (r : Red t t') : ∀ {g : List Ty} {s : Ty} {d : Env g → s.den}, Sem g t s d → Sem g t' s d := by
  induction r with
  | beta => intro g s d h; cases h with | app h1 h2 => cases h1 with | lam h1 => exact Sem.put0 h2 h1
  | rec0 => intro g s d h; cases h with | recn h1 h2 h3 => cases h3; exact h1
  | recS => intro g s d h; cases h with | recn h1 h2 h3 => cases h3 with | succ h3 => exact .app (.app h2 h3) (.recn h1 h2 h3)
  | fold0 => intro g s d h; cases h with | fold h1 h2 h3 => cases h3; exact h1
  | foldS => intro g s d h; cases h with | fold h1 h2 h3 => cases h3 with | cons h3 h4 => exact .app (.app (.app h2 h3) h4) (.fold h1 h2 h4)
  | fst => intro g s d h; cases h with | fst h => cases h with | pair h1 h2 => exact h1
  | snd => intro g s d h; cases h with | snd h => cases h with | pair h1 h2 => exact h2
  | lam _ ih => intro g s d h; cases h with | lam h => exact .lam (ih h)
  | app1 _ ih => intro g s d h; cases h with | app h1 h2 => exact .app (ih h1) h2
  | app2 _ ih => intro g s d h; cases h with | app h1 h2 => exact .app h1 (ih h2)
  | succ _ ih => intro g s d h; cases h with | succ h => exact .succ (ih h)
  | rec1 _ ih => intro g s d h; cases h with | recn h1 h2 h3 => exact .recn (ih h1) h2 h3
  | rec2 _ ih => intro g s d h; cases h with | recn h1 h2 h3 => exact .recn h1 (ih h2) h3
  | rec3 _ ih => intro g s d h; cases h with | recn h1 h2 h3 => exact .recn h1 h2 (ih h3)
  | cons1 _ ih => intro g s d h; cases h with | cons h1 h2 => exact .cons (ih h1) h2
  | cons2 _ ih => intro g s d h; cases h with | cons h1 h2 => exact .cons h1 (ih h2)
  | fold1 _ ih => intro g s d h; cases h with | fold h1 h2 h3 => exact .fold (ih h1) h2 h3
  | fold2 _ ih => intro g s d h; cases h with | fold h1 h2 h3 => exact .fold h1 (ih h2) h3
  | fold3 _ ih => intro g s d h; cases h with | fold h1 h2 h3 => exact .fold h1 h2 (ih h3)
  | pair1 _ ih => intro g s d h; cases h with | pair h1 h2 => exact .pair (ih h1) h2
  | pair2 _ ih => intro g s d h; cases h with | pair h1 h2 => exact .pair h1 (ih h2)
  | fst1 _ ih => intro g s d h; cases h with | fst h => exact .fst (ih h)
  | snd1 _ ih => intro g s d h; cases h with | snd h => exact .snd (ih h)

end T
end Go.Proofs.Ytgkdehfbeejlfaa
