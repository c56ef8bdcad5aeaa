/- A part of the proof: Th1, Th2, Th3, Th4. -/
/- PURE THEORY 1: Goedel's T with lists: types, terms, lifting, putting in, a set-theoretic meaning (Sem), and that lifting, putting in and single steps keep the meaning. No program in sight. -/
set_option linter.unusedVariables false
namespace Go.Proofs.YthclcchnodjjpaaGreatDoor
namespace T

inductive Ty where
  | nat | list | unit
  | pair (a b : Ty)
  | fn (a b : Ty)
  deriving DecidableEq

inductive Tm where
  | var (i : Nat)
  | lam (s : Ty) (b : Tm)
  | app (f a : Tm)
  | zero
  | succ (n : Tm)
  | recn (s : Ty) (b f n : Tm)
  | nil
  | cons (h l : Tm)
  | fold (s : Ty) (b f l : Tm)
  | pair (a b : Tm)
  | fst (p : Tm)
  | snd (p : Tm)
  | unit
  deriving DecidableEq

def Ty.size : Ty → Nat
  | .nat | .list | .unit => 1
  | .pair a b => a.size + b.size + 1
  | .fn a b => a.size + b.size + 1

def Tm.size : Tm → Nat
  | .var _ | .zero | .nil | .unit => 1
  | .lam _ b => b.size + 1
  | .app f a => f.size + a.size + 1
  | .succ n => n.size + 1
  | .recn _ b f n => b.size + f.size + n.size + 1
  | .cons h l => h.size + l.size + 1
  | .fold _ b f l => b.size + f.size + l.size + 1
  | .pair a b => a.size + b.size + 1
  | .fst p => p.size + 1
  | .snd p => p.size + 1

theorem Ty.size_pos (t : Ty) : 0 < t.size := by cases t <;> simp [Ty.size]
theorem Tm.size_pos (t : Tm) : 0 < t.size := by cases t <;> simp [Tm.size]

/-- Variables from k on become greater by 'n'. -/
def Tm.lift (n : Nat) : Nat → Tm → Tm
  | k, .var i => if k ≤ i then .var (i + n) else .var i
  | k, .lam s b => .lam s (b.lift n (k + 1))
  | k, .app f a => .app (f.lift n k) (a.lift n k)
  | _, .zero => .zero
  | k, .succ a => .succ (a.lift n k)
  | k, .recn s b f a => .recn s (b.lift n k) (f.lift n k) (a.lift n k)
  | _, .nil => .nil
  | k, .cons h l => .cons (h.lift n k) (l.lift n k)
  | k, .fold s b f l => .fold s (b.lift n k) (f.lift n k) (l.lift n k)
  | k, .pair a b => .pair (a.lift n k) (b.lift n k)
  | k, .fst p => .fst (p.lift n k)
  | k, .snd p => .snd (p.lift n k)
  | _, .unit => .unit

/-- A term in place of the variable k. -/
def Tm.put (x : Tm) : Nat → Tm → Tm
  | k, .var i => if i = k then x.lift k 0 else if k < i then .var (i - 1) else .var i
  | k, .lam s b => .lam s (Tm.put x (k + 1) b)
  | k, .app f a => .app (Tm.put x k f) (Tm.put x k a)
  | _, .zero => .zero
  | k, .succ a => .succ (Tm.put x k a)
  | k, .recn s b f a => .recn s (Tm.put x k b) (Tm.put x k f) (Tm.put x k a)
  | _, .nil => .nil
  | k, .cons h l => .cons (Tm.put x k h) (Tm.put x k l)
  | k, .fold s b f l => .fold s (Tm.put x k b) (Tm.put x k f) (Tm.put x k l)
  | k, .pair a b => .pair (Tm.put x k a) (Tm.put x k b)
  | k, .fst p => .fst (Tm.put x k p)
  | k, .snd p => .snd (Tm.put x k p)
  | _, .unit => .unit

/-! ### The meaning -/
@[reducible] def Ty.den : Ty → Type
  | .nat => Nat
  | .list => List Nat
  | .unit => Unit
  | .pair a b => a.den × b.den
  | .fn a b => a.den → b.den

@[reducible] def Env : List Ty → Type
  | [] => Unit
  | s :: g => s.den × Env g

inductive Look : (g : List Ty) → Nat → (s : Ty) → (Env g → s.den) → Prop where
  | here {s : Ty} {g : List Ty} : Look (s :: g) 0 s (fun ρ => ρ.1)
  | there {g : List Ty} {i : Nat} {s u : Ty} {p : Env g → s.den} : Look g i s p → Look (u :: g) (i + 1) s (fun ρ => p ρ.2)

def natRec {α : Type} (b : α) (f : Nat → α → α) : Nat → α
  | 0 => b
  | n + 1 => f n (natRec b f n)

def listRec {α : Type} (b : α) (f : Nat → List Nat → α → α) : List Nat → α
  | [] => b
  | h :: t => f h t (listRec b f t)

inductive Sem : (g : List Ty) → Tm → (s : Ty) → (Env g → s.den) → Prop where
  | var {g : List Ty} {i : Nat} {s : Ty} {p : Env g → s.den} : Look g i s p → Sem g (.var i) s p
  | lam {g : List Ty} {s u : Ty} {b : Tm} {d : Env (s :: g) → u.den} : Sem (s :: g) b u d → Sem g (.lam s b) (.fn s u) (fun ρ x => d (x, ρ))
  | app {g : List Ty} {s u : Ty} {f a : Tm} {d : Env g → (Ty.fn s u).den} {e : Env g → s.den} : Sem g f (.fn s u) d → Sem g a s e → Sem g (.app f a) u (fun ρ => d ρ (e ρ))
  | zero {g : List Ty} : Sem g .zero .nat (fun _ => (0 : Nat))
  | succ {g : List Ty} {a : Tm} {d : Env g → Ty.nat.den} : Sem g a .nat d → Sem g (.succ a) .nat (fun ρ => Nat.succ (d ρ))
  | recn {g : List Ty} {s : Ty} {b f n : Tm} {db : Env g → s.den} {df : Env g → (Ty.fn .nat (.fn s s)).den} {dn : Env g → Ty.nat.den} :
      Sem g b s db → Sem g f (.fn .nat (.fn s s)) df → Sem g n .nat dn → Sem g (.recn s b f n) s (fun ρ => natRec (db ρ) (df ρ) (dn ρ))
  | nil {g : List Ty} : Sem g .nil .list (fun _ => ([] : List Nat))
  | cons {g : List Ty} {h l : Tm} {dh : Env g → Ty.nat.den} {dl : Env g → Ty.list.den} : Sem g h .nat dh → Sem g l .list dl → Sem g (.cons h l) .list (fun ρ => List.cons (dh ρ) (dl ρ))
  | fold {g : List Ty} {s : Ty} {b f l : Tm} {db : Env g → s.den} {df : Env g → (Ty.fn .nat (.fn .list (.fn s s))).den} {dl : Env g → Ty.list.den} :
      Sem g b s db → Sem g f (.fn .nat (.fn .list (.fn s s))) df → Sem g l .list dl → Sem g (.fold s b f l) s (fun ρ => listRec (db ρ) (df ρ) (dl ρ))
  | pair {g : List Ty} {s u : Ty} {a b : Tm} {da : Env g → s.den} {db : Env g → u.den} : Sem g a s da → Sem g b u db → Sem g (.pair a b) (.pair s u) (fun ρ => (da ρ, db ρ))
  | fst {g : List Ty} {s u : Ty} {p : Tm} {d : Env g → (Ty.pair s u).den} : Sem g p (.pair s u) d → Sem g (.fst p) s (fun ρ => (d ρ).1)
  | snd {g : List Ty} {s u : Ty} {p : Tm} {d : Env g → (Ty.pair s u).den} : Sem g p (.pair s u) d → Sem g (.snd p) u (fun ρ => (d ρ).2)
  | unit {g : List Ty} : Sem g .unit .unit (fun _ => ())

/-! ### Renaming -/
def upR (r : Nat → Nat) : Nat → Nat
  | 0 => 0
  | i + 1 => r i + 1

def Tm.ren : (Nat → Nat) → Tm → Tm
  | r, .var i => .var (r i)
  | r, .lam s b => .lam s (b.ren (upR r))
  | r, .app f a => .app (f.ren r) (a.ren r)
  | _, .zero => .zero
  | r, .succ a => .succ (a.ren r)
  | r, .recn s b f a => .recn s (b.ren r) (f.ren r) (a.ren r)
  | _, .nil => .nil
  | r, .cons h l => .cons (h.ren r) (l.ren r)
  | r, .fold s b f l => .fold s (b.ren r) (f.ren r) (l.ren r)
  | r, .pair a b => .pair (a.ren r) (b.ren r)
  | r, .fst p => .fst (p.ren r)
  | r, .snd p => .snd (p.ren r)
  | _, .unit => .unit

theorem Sem.ren {g : List Ty} {t : Tm} {s : Ty} {d : Env g → s.den} (h : Sem g t s d) :
    ∀ {g' : List Ty} (r : Nat → Nat) (m : Env g' → Env g), (∀ i u p, Look g i u p → Look g' (r i) u (fun ρ => p (m ρ))) → Sem g' (t.ren r) s (fun ρ => d (m ρ)) := by
  induction h with
  | var hl => intro g' r m hm; exact .var (hm _ _ _ hl)
  | @lam g s u b d _ ih =>
    intro g' r m hm
    refine Sem.lam (ih (g' := s :: g') (upR r) (fun ρ => (ρ.1, m ρ.2)) ?_)
    intro i v p hl
    cases hl with
    | here => exact .here
    | there hl => exact .there (hm _ _ _ hl)
  | app _ _ ih1 ih2 => intro g' r m hm; exact .app (ih1 r m hm) (ih2 r m hm)
  | zero => intro g' r m hm; exact .zero
  | succ _ ih => intro g' r m hm; exact .succ (ih r m hm)
  | recn _ _ _ ih1 ih2 ih3 => intro g' r m hm; exact .recn (ih1 r m hm) (ih2 r m hm) (ih3 r m hm)
  | nil => intro g' r m hm; exact .nil
  | cons _ _ ih1 ih2 => intro g' r m hm; exact .cons (ih1 r m hm) (ih2 r m hm)
  | fold _ _ _ ih1 ih2 ih3 => intro g' r m hm; exact .fold (ih1 r m hm) (ih2 r m hm) (ih3 r m hm)
  | pair _ _ ih1 ih2 => intro g' r m hm; exact .pair (ih1 r m hm) (ih2 r m hm)
  | fst _ ih => intro g' r m hm; exact .fst (ih r m hm)
  | snd _ ih => intro g' r m hm; exact .snd (ih r m hm)
  | unit => intro g' r m hm; exact .unit

theorem Tm.ren_congr (t : Tm) : ∀ {r r' : Nat → Nat}, (∀ i, r i = r' i) → t.ren r = t.ren r' := by
  induction t with
  | lam s b ih =>
    intro r r' h
    simp only [Tm.ren, Tm.lam.injEq, true_and]
    refine ih ?_
    intro i; cases i with
    | zero => rfl
    | succ i => simp [upR, h i]
  | app f a ih1 ih2 => intro r r' h; simp only [Tm.ren, ih1 h, ih2 h]
  | recn s b f n ih1 ih2 ih3 => intro r r' h; simp only [Tm.ren, ih1 h, ih2 h, ih3 h]
  | fold s b f n ih1 ih2 ih3 => intro r r' h; simp only [Tm.ren, ih1 h, ih2 h, ih3 h]
  | cons a b ih1 ih2 => intro r r' h; simp only [Tm.ren, ih1 h, ih2 h]
  | pair a b ih1 ih2 => intro r r' h; simp only [Tm.ren, ih1 h, ih2 h]
  | succ a ih => intro r r' h; simp only [Tm.ren, ih h]
  | fst a ih => intro r r' h; simp only [Tm.ren, ih h]
  | snd a ih => intro r r' h; simp only [Tm.ren, ih h]
  | var i => intro r r' h; simp only [Tm.ren, h]
  | _ => intro r r' h; rfl

theorem Tm.ren_ren (t : Tm) : ∀ (r r' : Nat → Nat), (t.ren r).ren r' = t.ren (fun i => r' (r i)) := by
  induction t with
  | lam s b ih =>
    intro r r'
    simp only [Tm.ren, ih]
    refine congrArg _ (Tm.ren_congr b ?_)
    intro i; cases i <;> rfl
  | _ => intro r r'; simp_all only [Tm.ren]

theorem Tm.lift_ren (n : Nat) (t : Tm) : ∀ k, t.lift n k = t.ren (fun i => if k ≤ i then i + n else i) := by
  induction t with
  | var i => intro k; simp only [Tm.lift, Tm.ren]; split <;> rfl
  | lam s b ih =>
    intro k
    simp only [Tm.lift, Tm.ren, ih]
    refine congrArg _ (Tm.ren_congr b ?_)
    intro i; cases i with
    | zero => simp [upR]
    | succ i => simp only [upR]; by_cases h : k ≤ i <;> simp [h] <;> omega
  | _ => intro k; simp_all only [Tm.lift, Tm.ren]

/-- Without the first ones. -/
def dropFront : (h g : List Ty) → Env (h ++ g) → Env g
  | [], _, ρ => ρ
  | _ :: h, g, ρ => dropFront h g ρ.2

/-- Without those in the middle. -/
def dropMid : (a h g : List Ty) → Env (a ++ (h ++ g)) → Env (a ++ g)
  | [], h, g, ρ => dropFront h g ρ
  | _ :: a, h, g, ρ => (ρ.1, dropMid a h g ρ.2)

theorem look_front {u : Ty} : ∀ (h g : List Ty) (i : Nat) (p : Env g → u.den), Look g i u p → Look (h ++ g) (i + h.length) u (fun ρ => p (dropFront h g ρ))
  | [], g, i, p, hl => hl
  | v :: h, g, i, p, hl => Look.there (u := v) (look_front h g i p hl)

theorem look_dropMid {u : Ty} : ∀ (a h g : List Ty) (i : Nat) (p : Env (a ++ g) → u.den), Look (a ++ g) i u p → Look (a ++ (h ++ g)) (if a.length ≤ i then i + h.length else i) u (fun ρ => p (dropMid a h g ρ))
  | [], h, g, i, p, hl => by
    simp only [List.length_nil, Nat.zero_le, if_true]
    exact look_front h g i p hl
  | v :: a, h, g, i, p, hl => by
    cases hl with
    | here => simpa [dropMid] using (Look.here : Look (u :: (a ++ (h ++ g))) 0 u _)
    | @there _ i _ _ p hl =>
      have := look_dropMid a h g i p hl
      have e : (if (v :: a).length ≤ i + 1 then i + 1 + h.length else i + 1) = (if a.length ≤ i then i + h.length else i) + 1 := by
        simp only [List.length_cons]; split <;> split <;> omega
      rw [e]
      exact Look.there (u := v) this

theorem Sem.lift {a h g : List Ty} {t : Tm} {s : Ty} {d : Env (a ++ g) → s.den} (hs : Sem (a ++ g) t s d) : Sem (a ++ (h ++ g)) (t.lift h.length a.length) s (fun ρ => d (dropMid a h g ρ)) := by
  rw [Tm.lift_ren]
  exact hs.ren _ _ (fun i u p hl => look_dropMid a h g i p hl)

theorem Sem.up {h g : List Ty} {t : Tm} {s : Ty} {d : Env g → s.den} (hs : Sem g t s d) : Sem (h ++ g) (t.lift h.length 0) s (fun ρ => d (dropFront h g ρ)) :=
  Sem.lift (a := []) (h := h) (g := g) hs

/-! ### Putting in -/
/-- The environment in which a value stands behind k others. -/
def insAt {u : Ty} : (a g : List Ty) → (Env g → u.den) → Env (a ++ g) → Env (a ++ (u :: g))
  | [], _, e, ρ => (e ρ, ρ)
  | _ :: a, g, e, ρ => (ρ.1, insAt a g e ρ.2)

theorem look_insAt {u v : Ty} {x : Tm} {g : List Ty} {e : Env g → u.den} (hx : Sem g x u e) : ∀ (a : List Ty) (i : Nat) (p : Env (a ++ (u :: g)) → v.den), Look (a ++ (u :: g)) i v p →
    Sem (a ++ g) (if i = a.length then x.lift a.length 0 else if a.length < i then .var (i - 1) else .var i) v (fun ρ => p (insAt a g e ρ))
  | [], i, p, hl => by
    cases hl with
    | here => exact hx.up (h := [])
    | there hl => exact Sem.var hl
  | w :: a, i, p, hl => by
    cases hl with
    | here => simpa [insAt] using (Sem.var Look.here : Sem (v :: (a ++ g)) (.var 0) v _)
    | @there _ i _ _ p hl =>
      have := look_insAt hx a i p hl
      have h2 := this.up (h := [w])
      simp only [List.length_cons, List.length_nil, Nat.zero_add] at h2 ⊢
      have e2 : (if i + 1 = a.length + 1 then x.lift (a.length + 1) 0 else if a.length + 1 < i + 1 then Tm.var (i + 1 - 1) else Tm.var (i + 1)) = (if i = a.length then x.lift a.length 0 else if a.length < i then Tm.var (i - 1) else Tm.var i).lift 1 0 := by
        by_cases h1 : i = a.length
        · simp only [h1, if_true]
          rw [Tm.lift_ren, Tm.lift_ren, Tm.lift_ren, Tm.ren_ren]
          refine Tm.ren_congr x ?_
          intro i; simp; omega
        · by_cases h3 : a.length < i
          · simp [h1, h3, Tm.lift]; omega
          · simp [h1, h3, Tm.lift]
      rw [e2]
      exact h2

theorem Sem.put {u : Ty} {x : Tm} {g : List Ty} {e : Env g → u.den} (hx : Sem g x u e) {t : Tm} {g0 : List Ty} {s : Ty} {d : Env g0 → s.den} (h : Sem g0 t s d) :
    ∀ a (hg : g0 = a ++ (u :: g)), Sem (a ++ g) (Tm.put x a.length t) s (fun ρ => d (hg ▸ insAt a g e ρ)) := by
  induction h with
  | var hl => intro a hg; subst hg; exact look_insAt hx a _ _ hl
  | @lam g1 s1 u1 b d _ ih => intro a hg; subst hg; exact Sem.lam (ih (s1 :: a) rfl)
  | app _ _ ih1 ih2 => intro a hg; exact .app (ih1 a hg) (ih2 a hg)
  | zero => intro a hg; exact .zero
  | succ _ ih => intro a hg; exact .succ (ih a hg)
  | recn _ _ _ ih1 ih2 ih3 => intro a hg; exact .recn (ih1 a hg) (ih2 a hg) (ih3 a hg)
  | nil => intro a hg; exact .nil
  | cons _ _ ih1 ih2 => intro a hg; exact .cons (ih1 a hg) (ih2 a hg)
  | fold _ _ _ ih1 ih2 ih3 => intro a hg; exact .fold (ih1 a hg) (ih2 a hg) (ih3 a hg)
  | pair _ _ ih1 ih2 => intro a hg; exact .pair (ih1 a hg) (ih2 a hg)
  | fst _ ih => intro a hg; exact .fst (ih a hg)
  | snd _ ih => intro a hg; exact .snd (ih a hg)
  | unit => intro a hg; exact .unit

theorem Sem.put0 {u : Ty} {x : Tm} {g : List Ty} {e : Env g → u.den} (hx : Sem g x u e) {t : Tm} {s : Ty} {d : Env (u :: g) → s.den} (h : Sem (u :: g) t s d) : Sem g (Tm.put x 0 t) s (fun ρ => d (e ρ, ρ)) :=
  Sem.put hx h [] rfl

/-! ### Single steps -/
inductive Red : Tm → Tm → Prop where
  | beta {s : Ty} {b a : Tm} : Red (.app (.lam s b) a) (Tm.put a 0 b)
  | rec0 {s : Ty} {b f : Tm} : Red (.recn s b f .zero) b
  | recS {s : Ty} {b f n : Tm} : Red (.recn s b f (.succ n)) (.app (.app f n) (.recn s b f n))
  | fold0 {s : Ty} {b f : Tm} : Red (.fold s b f .nil) b
  | foldS {s : Ty} {b f h l : Tm} : Red (.fold s b f (.cons h l)) (.app (.app (.app f h) l) (.fold s b f l))
  | fst {a b : Tm} : Red (.fst (.pair a b)) a
  | snd {a b : Tm} : Red (.snd (.pair a b)) b
  | lam {s : Ty} {b b' : Tm} : Red b b' → Red (.lam s b) (.lam s b')
  | app1 {f f' a : Tm} : Red f f' → Red (.app f a) (.app f' a)
  | app2 {f a a' : Tm} : Red a a' → Red (.app f a) (.app f a')
  | succ {a a' : Tm} : Red a a' → Red (.succ a) (.succ a')
  | rec1 {s : Ty} {b b' f n : Tm} : Red b b' → Red (.recn s b f n) (.recn s b' f n)
  | rec2 {s : Ty} {b f f' n : Tm} : Red f f' → Red (.recn s b f n) (.recn s b f' n)
  | rec3 {s : Ty} {b f n n' : Tm} : Red n n' → Red (.recn s b f n) (.recn s b f n')
  | cons1 {h h' l : Tm} : Red h h' → Red (.cons h l) (.cons h' l)
  | cons2 {h l l' : Tm} : Red l l' → Red (.cons h l) (.cons h l')
  | fold1 {s : Ty} {b b' f n : Tm} : Red b b' → Red (.fold s b f n) (.fold s b' f n)
  | fold2 {s : Ty} {b f f' n : Tm} : Red f f' → Red (.fold s b f n) (.fold s b f' n)
  | fold3 {s : Ty} {b f n n' : Tm} : Red n n' → Red (.fold s b f n) (.fold s b f n')
  | pair1 {a a' b : Tm} : Red a a' → Red (.pair a b) (.pair a' b)
  | pair2 {a b b' : Tm} : Red b b' → Red (.pair a b) (.pair a b')
  | fst1 {a a' : Tm} : Red a a' → Red (.fst a) (.fst a')
  | snd1 {a a' : Tm} : Red a a' → Red (.snd a) (.snd a')

theorem Sem.red {t t' : Tm} (r : Red t t') : ∀ {g : List Ty} {s : Ty} {d : Env g → s.den}, Sem g t s d → Sem g t' s d := by
  induction r with
  | beta => intro g s d h; cases h with | app h1 h2 => cases h1 with | lam h1 => exact Sem.put0 h2 h1
  | rec0 => intro g s d h; cases h with | recn h1 h2 h3 => cases h3; exact h1
  | recS => intro g s d h; cases h with | recn h1 h2 h3 => cases h3 with | succ h3 => exact .app (.app h2 h3) (.recn h1 h2 h3)
  | fold0 => intro g s d h; cases h with | fold h1 h2 h3 => cases h3; exact h1
  | foldS => intro g s d h; cases h with | fold h1 h2 h3 => cases h3 with | cons h3 h4 => exact .app (.app (.app h2 h3) h4) (.fold h1 h2 h4)
  | fst => intro g s d h; cases h with | fst h => cases h with | pair h1 h2 => exact h1
  | snd => intro g s d h; cases h with | snd h => cases h with | pair h1 h2 => exact h2
  | lam _ ih => intro g s d h; cases h with | lam h => exact .lam (ih h)
  | app1 _ ih => intro g s d h; cases h with | app h1 h2 => exact .app (ih h1) h2
  | app2 _ ih => intro g s d h; cases h with | app h1 h2 => exact .app h1 (ih h2)
  | succ _ ih => intro g s d h; cases h with | succ h => exact .succ (ih h)
  | rec1 _ ih => intro g s d h; cases h with | recn h1 h2 h3 => exact .recn (ih h1) h2 h3
  | rec2 _ ih => intro g s d h; cases h with | recn h1 h2 h3 => exact .recn h1 (ih h2) h3
  | rec3 _ ih => intro g s d h; cases h with | recn h1 h2 h3 => exact .recn h1 h2 (ih h3)
  | cons1 _ ih => intro g s d h; cases h with | cons h1 h2 => exact .cons (ih h1) h2
  | cons2 _ ih => intro g s d h; cases h with | cons h1 h2 => exact .cons h1 (ih h2)
  | fold1 _ ih => intro g s d h; cases h with | fold h1 h2 h3 => exact .fold (ih h1) h2 h3
  | fold2 _ ih => intro g s d h; cases h with | fold h1 h2 h3 => exact .fold h1 (ih h2) h3
  | fold3 _ ih => intro g s d h; cases h with | fold h1 h2 h3 => exact .fold h1 h2 (ih h3)
  | pair1 _ ih => intro g s d h; cases h with | pair h1 h2 => exact .pair (ih h1) h2
  | pair2 _ ih => intro g s d h; cases h with | pair h1 h2 => exact .pair h1 (ih h2)
  | fst1 _ ih => intro g s d h; cases h with | fst h => exact .fst (ih h)
  | snd1 _ ih => intro g s d h; cases h with | snd h => exact .snd (ih h)

end T
end Go.Proofs.YthclcchnodjjpaaGreatDoor
/- PURE THEORY 2: evaluation with work and ticks (big steps), that it has one result, and that the result is the meaning. -/
set_option linter.unusedVariables false
namespace Go.Proofs.YthclcchnodjjpaaGreatDoor
namespace T

/-- What the machine reckons with. -/
inductive V where
  | num (n : Nat)
  | list (l : List Nat)
  | pair (a b : V)
  | unit
  | clo (b : Tm) (e : List V)

/-- What is to be done: a term with the values of its variables; n rounds of a recursion; a list gone through from its end. -/
inductive Job where
  | tm (e : List V) (t : Tm)
  | recn (f : V) (r : V) (n : Nat)
  | fold (f : V) (r : V) (l : List Nat)

/-- 'Ev j v n k': the job j returns v, with n units of work and k ticks. -/
inductive Ev : Job → V → Nat → Nat → Prop where
  | var {e : List V} {i : Nat} {v : V} : e[i]? = some v → Ev (.tm e (.var i)) v 1 0
  | lam {e : List V} {s : Ty} {b : Tm} : Ev (.tm e (.lam s b)) (.clo b e) 1 0
  | app {e e' : List V} {f a b : Tm} {u v : V} {n1 n2 n3 k1 k2 k3 : Nat} : Ev (.tm e f) (.clo b e') n1 k1 → Ev (.tm e a) u n2 k2 → Ev (.tm (u :: e') b) v n3 k3 →
      Ev (.tm e (.app f a)) v (1 + n1 + n2 + n3) (k1 + k2 + k3 + 1)
  | zero {e : List V} : Ev (.tm e .zero) (.num 0) 1 0
  | succ {e : List V} {a : Tm} {m n k : Nat} : Ev (.tm e a) (.num m) n k → Ev (.tm e (.succ a)) (.num (m + 1)) (1 + n) k
  | recn {e : List V} {s : Ty} {b f a : Tm} {vb vf v : V} {m n1 n2 n3 n4 k1 k2 k3 k4 : Nat} : Ev (.tm e b) vb n1 k1 → Ev (.tm e f) vf n2 k2 → Ev (.tm e a) (.num m) n3 k3 → Ev (.recn vf vb m) v n4 k4 →
      Ev (.tm e (.recn s b f a)) v (1 + n1 + n2 + n3 + n4) (k1 + k2 + k3 + k4)
  | nil {e : List V} : Ev (.tm e .nil) (.list []) 1 0
  | cons {e : List V} {h l : Tm} {m : Nat} {ms : List Nat} {n1 n2 k1 k2 : Nat} : Ev (.tm e h) (.num m) n1 k1 → Ev (.tm e l) (.list ms) n2 k2 → Ev (.tm e (.cons h l)) (.list (m :: ms)) (1 + n1 + n2) (k1 + k2)
  | fold {e : List V} {s : Ty} {b f a : Tm} {vb vf v : V} {l : List Nat} {n1 n2 n3 n4 k1 k2 k3 k4 : Nat} : Ev (.tm e b) vb n1 k1 → Ev (.tm e f) vf n2 k2 → Ev (.tm e a) (.list l) n3 k3 → Ev (.fold vf vb l) v n4 k4 →
      Ev (.tm e (.fold s b f a)) v (1 + n1 + n2 + n3 + n4) (k1 + k2 + k3 + k4)
  | pair {e : List V} {a b : Tm} {u v : V} {n1 n2 k1 k2 : Nat} : Ev (.tm e a) u n1 k1 → Ev (.tm e b) v n2 k2 → Ev (.tm e (.pair a b)) (.pair u v) (1 + n1 + n2) (k1 + k2)
  | fst {e : List V} {p : Tm} {u v : V} {n k : Nat} : Ev (.tm e p) (.pair u v) n k → Ev (.tm e (.fst p)) u (1 + n) k
  | snd {e : List V} {p : Tm} {u v : V} {n k : Nat} : Ev (.tm e p) (.pair u v) n k → Ev (.tm e (.snd p)) v (1 + n) k
  | unit {e : List V} : Ev (.tm e .unit) .unit 1 0
  | rec0 {f r : V} : Ev (.recn f r 0) r 0 0
  | recS {b c : Tm} {e e' : List V} {r u v : V} {m n1 n2 n3 k1 k2 k3 : Nat} : Ev (.recn (.clo b e) r m) u n1 k1 → Ev (.tm (.num m :: e) b) (.clo c e') n2 k2 → Ev (.tm (u :: e') c) v n3 k3 →
      Ev (.recn (.clo b e) r (m + 1)) v (n1 + n2 + n3) (k1 + k2 + k3 + 1)
  | fold0 {f r : V} : Ev (.fold f r []) r 0 0
  | foldS {b c c' : Tm} {e e' e'' : List V} {r u v : V} {h : Nat} {t : List Nat} {n1 n2 n3 n4 k1 k2 k3 k4 : Nat} : Ev (.fold (.clo b e) r t) u n1 k1 → Ev (.tm (.num h :: e) b) (.clo c e') n2 k2 →
      Ev (.tm (.list t :: e') c) (.clo c' e'') n3 k3 → Ev (.tm (u :: e'') c') v n4 k4 → Ev (.fold (.clo b e) r (h :: t)) v (n1 + n2 + n3 + n4) (k1 + k2 + k3 + k4 + 1)

theorem Ev.work_pos {e : List V} {t : Tm} {v : V} {n k : Nat} (h : Ev (.tm e t) v n k) : 0 < n := by cases h <;> omega

theorem Ev.det {j : Job} {v : V} {n k : Nat} (h : Ev j v n k) : ∀ {v' : V} {n' k' : Nat}, Ev j v' n' k' → v = v' ∧ n = n' ∧ k = k' := by
  induction h with
  | var h => intro v' n' k' h'; cases h' with | var h' => rw [h] at h'; exact ⟨Option.some.inj h', rfl, rfl⟩
  | lam => intro v' n' k' h'; cases h'; exact ⟨rfl, rfl, rfl⟩
  | app _ _ _ ih1 ih2 ih3 =>
    intro v' n' k' h'; cases h' with
    | app h1 h2 h3 =>
      obtain ⟨e1, rfl, rfl⟩ := ih1 h1; cases e1
      obtain ⟨rfl, rfl, rfl⟩ := ih2 h2
      obtain ⟨rfl, rfl, rfl⟩ := ih3 h3
      exact ⟨rfl, rfl, rfl⟩
  | zero => intro v' n' k' h'; cases h'; exact ⟨rfl, rfl, rfl⟩
  | succ _ ih => intro v' n' k' h'; cases h' with | succ h1 => obtain ⟨e1, rfl, rfl⟩ := ih h1; cases e1; exact ⟨rfl, rfl, rfl⟩
  | recn _ _ _ _ ih1 ih2 ih3 ih4 =>
    intro v' n' k' h'; cases h' with
    | recn h1 h2 h3 h4 =>
      obtain ⟨rfl, rfl, rfl⟩ := ih1 h1
      obtain ⟨rfl, rfl, rfl⟩ := ih2 h2
      obtain ⟨e1, rfl, rfl⟩ := ih3 h3; cases e1
      obtain ⟨rfl, rfl, rfl⟩ := ih4 h4
      exact ⟨rfl, rfl, rfl⟩
  | nil => intro v' n' k' h'; cases h'; exact ⟨rfl, rfl, rfl⟩
  | cons _ _ ih1 ih2 =>
    intro v' n' k' h'; cases h' with
    | cons h1 h2 =>
      obtain ⟨e1, rfl, rfl⟩ := ih1 h1; cases e1
      obtain ⟨e1, rfl, rfl⟩ := ih2 h2; cases e1
      exact ⟨rfl, rfl, rfl⟩
  | fold _ _ _ _ ih1 ih2 ih3 ih4 =>
    intro v' n' k' h'; cases h' with
    | fold h1 h2 h3 h4 =>
      obtain ⟨rfl, rfl, rfl⟩ := ih1 h1
      obtain ⟨rfl, rfl, rfl⟩ := ih2 h2
      obtain ⟨e1, rfl, rfl⟩ := ih3 h3; cases e1
      obtain ⟨rfl, rfl, rfl⟩ := ih4 h4
      exact ⟨rfl, rfl, rfl⟩
  | pair _ _ ih1 ih2 =>
    intro v' n' k' h'; cases h' with
    | pair h1 h2 =>
      obtain ⟨rfl, rfl, rfl⟩ := ih1 h1
      obtain ⟨rfl, rfl, rfl⟩ := ih2 h2
      exact ⟨rfl, rfl, rfl⟩
  | fst _ ih => intro v' n' k' h'; cases h' with | fst h1 => obtain ⟨e1, rfl, rfl⟩ := ih h1; cases e1; exact ⟨rfl, rfl, rfl⟩
  | snd _ ih => intro v' n' k' h'; cases h' with | snd h1 => obtain ⟨e1, rfl, rfl⟩ := ih h1; cases e1; exact ⟨rfl, rfl, rfl⟩
  | unit => intro v' n' k' h'; cases h'; exact ⟨rfl, rfl, rfl⟩
  | rec0 => intro v' n' k' h'; cases h'; exact ⟨rfl, rfl, rfl⟩
  | recS _ _ _ ih1 ih2 ih3 =>
    intro v' n' k' h'; cases h' with
    | recS h1 h2 h3 =>
      obtain ⟨rfl, rfl, rfl⟩ := ih1 h1
      obtain ⟨e1, rfl, rfl⟩ := ih2 h2; cases e1
      obtain ⟨rfl, rfl, rfl⟩ := ih3 h3
      exact ⟨rfl, rfl, rfl⟩
  | fold0 => intro v' n' k' h'; cases h'; exact ⟨rfl, rfl, rfl⟩
  | foldS _ _ _ _ ih1 ih2 ih3 ih4 =>
    intro v' n' k' h'; cases h' with
    | foldS h1 h2 h3 h4 =>
      obtain ⟨rfl, rfl, rfl⟩ := ih1 h1
      obtain ⟨e1, rfl, rfl⟩ := ih2 h2; cases e1
      obtain ⟨e1, rfl, rfl⟩ := ih3 h3; cases e1
      obtain ⟨rfl, rfl, rfl⟩ := ih4 h4
      exact ⟨rfl, rfl, rfl⟩

/-! ### Values mean what they mean -/
/-- 'Means s v d': the value v of the machine means d, in the type s. -/
def Means : (s : Ty) → V → s.den → Prop
  | .nat, v, d => v = .num d
  | .list, v, d => v = .list d
  | .unit, v, _ => v = .unit
  | .pair s u, v, d => ∃ a b, v = .pair a b ∧ Means s a d.1 ∧ Means u b d.2
  | .fn s u, v, d => ∃ b e, v = .clo b e ∧ ∀ a x, Means s a x → ∀ r n k, Ev (.tm (a :: e) b) r n k → Means u r (d x)

def EnvMeans : (g : List Ty) → List V → Env g → Prop
  | [], _, _ => True
  | s :: g, e, ρ => ∃ v e', e = v :: e' ∧ Means s v ρ.1 ∧ EnvMeans g e' ρ.2

theorem look_means {g : List Ty} {i : Nat} {s : Ty} {p : Env g → s.den} (h : Look g i s p) : ∀ {e : List V} {ρ : Env g} {v : V}, EnvMeans g e ρ → e[i]? = some v → Means s v (p ρ) := by
  induction h with
  | here => intro e ρ v he hv; obtain ⟨v', e', rfl, h1, _⟩ := he; simp at hv; subst hv; exact h1
  | there _ ih => intro e ρ v he hv; obtain ⟨v', e', rfl, _, h2⟩ := he; simp at hv; exact ih h2 hv

theorem rec_means {s : Ty} {vf vb : V} {df : (Ty.fn .nat (.fn s s)).den} {db : s.den} (hf : Means (.fn .nat (.fn s s)) vf df) (hb : Means s vb db) :
    ∀ m {v : V} {n k : Nat}, Ev (.recn vf vb m) v n k → Means s v (natRec db df m) := by
  intro m
  induction m with
  | zero => intro v n k h; cases h; exact hb
  | succ m ih =>
    intro v n k h
    cases h with
    | recS h1 h2 h3 =>
      obtain ⟨_, _, he, hq⟩ := hf; cases he
      obtain ⟨_, _, he, hq2⟩ := hq _ m (by simp [Means]) _ _ _ h2; cases he
      exact hq2 _ _ (ih h1) _ _ _ h3

theorem fold_means {s : Ty} {vf vb : V} {df : (Ty.fn .nat (.fn .list (.fn s s))).den} {db : s.den} (hf : Means (.fn .nat (.fn .list (.fn s s))) vf df) (hb : Means s vb db) :
    ∀ l {v : V} {n k : Nat}, Ev (.fold vf vb l) v n k → Means s v (listRec db df l) := by
  intro l
  induction l with
  | nil => intro v n k h; cases h; exact hb
  | cons a l ih =>
    intro v n k h
    cases h with
    | foldS h1 h2 h3 h4 =>
      obtain ⟨_, _, he, hq⟩ := hf; cases he
      obtain ⟨_, _, he, hq2⟩ := hq _ a (by simp [Means]) _ _ _ h2; cases he
      obtain ⟨_, _, he, hq3⟩ := hq2 _ l (by simp [Means]) _ _ _ h3; cases he
      exact hq3 _ _ (ih h1) _ _ _ h4

/-- Evaluation returns the meaning. -/
theorem Sem.means {g : List Ty} {t : Tm} {s : Ty} {d : Env g → s.den} (h : Sem g t s d) : ∀ {e : List V} {ρ : Env g} {v : V} {n k : Nat}, EnvMeans g e ρ → Ev (.tm e t) v n k → Means s v (d ρ) := by
  induction h with
  | var hl => intro e ρ v n k he h; cases h with | var h => exact look_means hl he h
  | lam _ ih => intro e ρ v n k he h; cases h; exact ⟨_, _, rfl, fun a x hx r n k h => ih ⟨_, _, rfl, hx, he⟩ h⟩
  | app _ _ ih1 ih2 =>
    intro e ρ v n k he h; cases h with
    | app h1 h2 h3 => obtain ⟨_, _, e1, hq⟩ := ih1 he h1; cases e1; exact hq _ _ (ih2 he h2) _ _ _ h3
  | zero => intro e ρ v n k he h; cases h; rfl
  | succ _ ih => intro e ρ v n k he h; cases h with | succ h => have := ih he h; simp only [Means, V.num.injEq] at this ⊢; rw [this]
  | recn _ _ _ ih1 ih2 ih3 =>
    intro e ρ v n k he h; cases h with
    | recn h1 h2 h3 h4 =>
      have := ih3 he h3; simp only [Means, V.num.injEq] at this
      dsimp only; rw [← this]; exact rec_means (ih2 he h2) (ih1 he h1) _ h4
  | nil => intro e ρ v n k he h; cases h; rfl
  | cons _ _ ih1 ih2 =>
    intro e ρ v n k he h; cases h with
    | cons h1 h2 => have a := ih1 he h1; have b := ih2 he h2; simp only [Means, V.num.injEq, V.list.injEq] at a b ⊢; rw [a, b]
  | fold _ _ _ ih1 ih2 ih3 =>
    intro e ρ v n k he h; cases h with
    | fold h1 h2 h3 h4 =>
      have := ih3 he h3; simp only [Means, V.list.injEq] at this
      dsimp only; rw [← this]; exact fold_means (ih2 he h2) (ih1 he h1) _ h4
  | pair _ _ ih1 ih2 => intro e ρ v n k he h; cases h with | pair h1 h2 => exact ⟨_, _, rfl, ih1 he h1, ih2 he h2⟩
  | fst _ ih => intro e ρ v n k he h; cases h with | fst h => obtain ⟨_, _, e1, h1, _⟩ := ih he h; cases e1; exact h1
  | snd _ ih => intro e ρ v n k he h; cases h with | snd h => obtain ⟨_, _, e1, _, h1⟩ := ih he h; cases e1; exact h1
  | unit => intro e ρ v n k he h; cases h; rfl

/-! ### Types without functions -/
def Ty.data : Ty → Bool
  | .nat | .list | .unit => true
  | .pair a b => a.data && b.data
  | .fn _ _ => false

/-- The machine's value of a meaning, at a type without functions. -/
def back : (s : Ty) → s.den → V
  | .nat, d => .num d
  | .list, d => .list d
  | .unit, _ => .unit
  | .pair s u, d => .pair (back s d.1) (back u d.2)
  | .fn _ _, _ => .unit

theorem means_data : ∀ (s : Ty) (v : V) (d : s.den), s.data = true → (Means s v d ↔ v = back s d)
  | .nat, v, d, _ => Iff.rfl
  | .list, v, d, _ => Iff.rfl
  | .unit, v, d, _ => Iff.rfl
  | .fn _ _, _, _, h => by simp [Ty.data] at h
  | .pair s u, v, d, h => by
    simp only [Ty.data, Bool.and_eq_true] at h
    simp only [Means, back]
    constructor
    · rintro ⟨a, b, rfl, h1, h2⟩
      rw [(means_data s a _ h.1).1 h1, (means_data u b _ h.2).1 h2]
    · rintro rfl
      exact ⟨_, _, rfl, (means_data s _ _ h.1).2 rfl, (means_data u _ _ h.2).2 rfl⟩

theorem back_inj : ∀ (s : Ty) (d d' : s.den), s.data = true → back s d = back s d' → d = d'
  | .nat, d, d', _, h => by simpa [back] using h
  | .list, d, d', _, h => by simpa [back] using h
  | .unit, _, _, _, _ => rfl
  | .fn _ _, _, _, h, _ => by simp [Ty.data] at h
  | .pair s u, d, d', hd, h => by
    simp only [Ty.data, Bool.and_eq_true] at hd
    simp only [back, V.pair.injEq] at h
    exact Prod.ext (back_inj s _ _ hd.1 h.1) (back_inj u _ _ hd.2 h.2)

end T
end Go.Proofs.YthclcchnodjjpaaGreatDoor
/- PURE THEORY 3: majorants: types, greatest terms, the majorant of a term; that it has the majorant type, bounds the term's meaning, and grows with what it depends on. -/
set_option linter.unusedVariables false
namespace Go.Proofs.YthclcchnodjjpaaGreatDoor
namespace T

def pred : Tm := .lam .nat (.recn .nat .zero (.lam .nat (.lam .nat (.var 1))) (.var 0))
def plus : Tm := .lam .nat (.lam .nat (.recn .nat (.var 1) (.lam .nat (.lam .nat (.succ (.var 0)))) (.var 0)))
def times : Tm := .lam .nat (.lam .nat (.recn .nat .zero (.lam .nat (.lam .nat (.app (.app plus (.var 0)) (.var 3)))) (.var 0)))
def sub : Tm := .lam .nat (.lam .nat (.recn .nat (.var 1) (.lam .nat (.lam .nat (.app pred (.var 0)))) (.var 0)))
def distance : Tm := .lam .nat (.lam .nat (.app (.app plus (.app (.app sub (.var 1)) (.var 0))) (.app (.app sub (.var 0)) (.var 1))))
def greater : Tm := .lam .nat (.lam .nat (.app (.app plus (.var 1)) (.app (.app sub (.var 0)) (.var 1))))

def num : Nat → Tm
  | 0 => .zero
  | n + 1 => .succ (num n)

theorem Sem.cast {g : List Ty} {t : Tm} {s : Ty} {d d' : Env g → s.den} (h : Sem g t s d) (e : ∀ ρ, d ρ = d' ρ) : Sem g t s d' := by
  rw [← funext e]; exact h

theorem nat_gr (m n : Nat) : m + (n - m) = max m n := by omega
theorem nat_l (a b v : Nat) (h : v ≤ a) : v ≤ max a b := by omega
theorem nat_r (a b v : Nat) (h : v ≤ b) : v ≤ max a b := by omega
theorem nat_m (a b c d : Nat) (h : c ≤ a) (k : d ≤ b) : max c d ≤ max a b := by omega
theorem natRec_pred (n : Nat) : natRec (0 : Nat) (fun k _ => k) n = n - 1 := by cases n <;> rfl
theorem natRec_plus (m n : Nat) : natRec m (fun _ r => r + 1) n = m + n := by
  induction n with
  | zero => rfl
  | succ n ih => simp only [natRec, ih]; omega
theorem natRec_sub (m n : Nat) : natRec m (fun _ r => r - 1) n = m - n := by
  induction n with
  | zero => rfl
  | succ n ih => simp only [natRec, ih]; omega
theorem natRec_times (m n : Nat) : natRec (0 : Nat) (fun _ r => r + m) n = n * m := by
  induction n with
  | zero => simp [natRec]
  | succ n ih => simp only [natRec, ih, Nat.succ_mul]

theorem sem_pred (g : List Ty) : Sem g pred (.fn .nat .nat) (fun _ n => n - 1) := by
  refine Sem.cast (d := fun _ n => natRec (0 : Nat) (fun k _ => k) n) ?_ (fun ρ => funext fun n => natRec_pred n)
  exact .lam (.recn .zero (.lam (.lam (.var (.there .here)))) (.var .here))
theorem sem_plus (g : List Ty) : Sem g plus (.fn .nat (.fn .nat .nat)) (fun _ m n => m + n) := by
  refine Sem.cast (d := fun _ m n => natRec m (fun _ r => Nat.succ r) n) ?_ (fun ρ => funext fun m => funext fun n => natRec_plus m n)
  exact .lam (.lam (.recn (.var (.there .here)) (.lam (.lam (.succ (.var .here)))) (.var .here)))
theorem sem_sub (g : List Ty) : Sem g sub (.fn .nat (.fn .nat .nat)) (fun _ m n => m - n) := by
  refine Sem.cast (d := fun _ m n => natRec m (fun _ r => r - 1) n) ?_ (fun ρ => funext fun m => funext fun n => natRec_sub m n)
  exact .lam (.lam (.recn (.var (.there .here)) (.lam (.lam (.app (sem_pred _) (.var .here)))) (.var .here)))
theorem sem_times (g : List Ty) : Sem g times (.fn .nat (.fn .nat .nat)) (fun _ m n => m * n) := by
  refine Sem.cast (d := fun _ m n => natRec (0 : Nat) (fun _ r => r + m) n) ?_ (fun ρ => funext fun m => funext fun n => (natRec_times m n).trans (Nat.mul_comm n m))
  exact .lam (.lam (.recn .zero (.lam (.lam (.app (.app (sem_plus _) (.var .here)) (.var (.there (.there (.there .here))))))) (.var .here)))
theorem sem_distance (g : List Ty) : Sem g distance (.fn .nat (.fn .nat .nat)) (fun _ m n => (m - n) + (n - m)) :=
  .lam (.lam (.app (.app (sem_plus _) (.app (.app (sem_sub _) (.var (.there .here))) (.var .here))) (.app (.app (sem_sub _) (.var .here)) (.var (.there .here)))))
theorem sem_greater (g : List Ty) : Sem g greater (.fn .nat (.fn .nat .nat)) (fun _ m n => max m n) := by
  refine Sem.cast (d := fun _ m n => m + (n - m)) ?_ (fun ρ => funext fun m => funext fun n => nat_gr m n)
  exact .lam (.lam (.app (.app (sem_plus _) (.var (.there .here))) (.app (.app (sem_sub _) (.var .here)) (.var (.there .here)))))
theorem sem_num (g : List Ty) : ∀ n, Sem g (num n) .nat (fun _ => n)
  | 0 => .zero
  | n + 1 => .succ (sem_num g n)

/-! ### Types and terms -/
def Ty.star : Ty → Ty
  | .nat => .nat
  | .list => .nat
  | .unit => .unit
  | .pair a b => .pair a.star b.star
  | .fn a b => .fn a.star b.star

def Ty.bare : Ty → Bool
  | .nat | .unit => true
  | .list => false
  | .pair a b => a.bare && b.bare
  | .fn a b => a.bare && b.bare

theorem Ty.bare_star : ∀ s : Ty, s.star.bare = true
  | .nat | .list | .unit => rfl
  | .pair a b => by simp [star, bare, bare_star a, bare_star b]
  | .fn a b => by simp [star, bare, bare_star a, bare_star b]

theorem Ty.star_size : ∀ s : Ty, s.star.size = s.size
  | .nat | .list | .unit => rfl
  | .pair a b => by simp [star, size, star_size a, star_size b]
  | .fn a b => by simp [star, size, star_size a, star_size b]

theorem Ty.star_data : ∀ s : Ty, s.star.data = s.data
  | .nat | .list | .unit => rfl
  | .fn a b => rfl
  | .pair a b => by simp [star, data, star_data a, star_data b]

theorem Ty.star_bare : ∀ s : Ty, s.bare = true → s.star = s
  | .nat, _ | .unit, _ => rfl
  | .list, h => by simp [bare] at h
  | .pair a b, h => by simp only [bare, Bool.and_eq_true] at h; simp [star, star_bare a h.1, star_bare b h.2]
  | .fn a b, h => by simp only [bare, Bool.and_eq_true] at h; simp [star, star_bare a h.1, star_bare b h.2]

def mx : Ty → Tm → Tm → Tm
  | .nat, a, b => .app (.app greater a) b
  | .pair s u, a, b => .pair (mx s (.fst a) (.fst b)) (mx u (.snd a) (.snd b))
  | .fn s u, a, b => .lam s (mx u (.app (a.lift 1 0) (.var 0)) (.app (b.lift 1 0) (.var 0)))
  | _, _, _ => .unit

def Tm.star : Tm → Tm
  | .var i => .var i
  | .lam s b => .lam s.star b.star
  | .app f a => .app f.star a.star
  | .zero => .zero
  | .succ n => .succ n.star
  | .recn s b f n => .recn s.star b.star (.lam .nat (.lam s.star (mx s.star (.var 0) (.app (.app (f.star.lift 2 0) (.var 1)) (.var 0))))) n.star
  | .nil => .zero
  | .cons h l => mx .nat h.star (.succ l.star)
  | .fold s b f l => .app (.lam .nat (.recn s.star (b.star.lift 1 0) (.lam .nat (.lam s.star (mx s.star (.var 0) (.app (.app (.app (f.star.lift 3 0) (.var 2)) (.var 2)) (.var 0))))) (.var 0))) l.star
  | .pair a b => .pair a.star b.star
  | .fst p => .fst p.star
  | .snd p => .snd p.star
  | .unit => .unit

/-! ### The greater one of two meanings -/
def dmax : (s : Ty) → s.den → s.den → s.den
  | .nat, a, b => max a b
  | .list, a, _ => a
  | .unit, _, _ => ()
  | .pair s u, a, b => (dmax s a.1 b.1, dmax u a.2 b.2)
  | .fn _ u, a, b => fun x => dmax u (a x) (b x)

theorem sem_mx : ∀ (s : Ty) (g : List Ty) (a b : Tm) (da db : Env g → s.den), s.bare = true → Sem g a s da → Sem g b s db → Sem g (mx s a b) s (fun ρ => dmax s (da ρ) (db ρ))
  | .nat, g, a, b, da, db, _, ha, hb => .app (.app (sem_greater g) ha) hb
  | .unit, g, a, b, da, db, _, ha, hb => .unit
  | .list, g, a, b, da, db, h, ha, hb => by simp [Ty.bare] at h
  | .pair s u, g, a, b, da, db, h, ha, hb => by
    simp only [Ty.bare, Bool.and_eq_true] at h
    exact .pair (sem_mx s g _ _ _ _ h.1 (.fst ha) (.fst hb)) (sem_mx u g _ _ _ _ h.2 (.snd ha) (.snd hb))
  | .fn s u, g, a, b, da, db, h, ha, hb => by
    simp only [Ty.bare, Bool.and_eq_true] at h
    exact .lam (sem_mx u (s :: g) _ _ _ _ h.2 (.app (ha.up (h := [s])) (.var .here)) (.app (hb.up (h := [s])) (.var .here)))

/-! ### What bounds what -/
def Maj : (s : Ty) → s.star.den → s.den → Prop
  | .nat, a, v => v ≤ a
  | .list, a, v => v.length ≤ a ∧ ∀ x ∈ v, x ≤ a
  | .unit, _, _ => True
  | .pair s u, a, v => Maj s a.1 v.1 ∧ Maj u a.2 v.2
  | .fn s u, a, v => ∀ b w, Maj s b w → Maj u (a b) (v w)

def EnvMaj : (g : List Ty) → Env (g.map Ty.star) → Env g → Prop
  | [], _, _ => True
  | s :: g, a, ρ => Maj s a.1 ρ.1 ∧ EnvMaj g a.2 ρ.2

/-- 'Mon s a b': b is at most a. -/
def Mon : (s : Ty) → s.den → s.den → Prop
  | .nat, a, b => b ≤ a
  | .list, a, b => a = b
  | .unit, _, _ => True
  | .pair s u, a, b => Mon s a.1 b.1 ∧ Mon u a.2 b.2
  | .fn s u, a, b => ∀ x y, Mon s x y → Mon u (a x) (b y)

def EnvMon : (g : List Ty) → Env g → Env g → Prop
  | [], _, _ => True
  | s :: g, a, b => Mon s a.1 b.1 ∧ EnvMon g a.2 b.2

theorem maj_left : ∀ (s : Ty) (a b : s.star.den) (v : s.den), Maj s a v → Maj s (dmax s.star a b) v
  | .nat, a, b, v, h => nat_l a b v h
  | .list, a, b, v, h => ⟨nat_l a b _ h.1, fun x hx => nat_l a b x (h.2 x hx)⟩
  | .unit, _, _, _, _ => trivial
  | .pair s u, a, b, v, h => ⟨maj_left s _ _ _ h.1, maj_left u _ _ _ h.2⟩
  | .fn s u, a, b, v, h => fun c w hw => maj_left u _ _ _ (h c w hw)

theorem maj_right : ∀ (s : Ty) (a b : s.star.den) (v : s.den), Maj s b v → Maj s (dmax s.star a b) v
  | .nat, a, b, v, h => nat_r a b v h
  | .list, a, b, v, h => ⟨nat_r a b _ h.1, fun x hx => nat_r a b x (h.2 x hx)⟩
  | .unit, _, _, _, _ => trivial
  | .pair s u, a, b, v, h => ⟨maj_right s _ _ _ h.1, maj_right u _ _ _ h.2⟩
  | .fn s u, a, b, v, h => fun c w hw => maj_right u _ _ _ (h c w hw)

theorem mon_left : ∀ (s : Ty) (a b v : s.den), s.bare = true → Mon s a v → Mon s (dmax s a b) v
  | .nat, a, b, v, _, h => nat_l a b v h
  | .list, a, b, v, hs, h => by simp [Ty.bare] at hs
  | .unit, _, _, _, _, _ => trivial
  | .pair s u, a, b, v, hs, h => by simp only [Ty.bare, Bool.and_eq_true] at hs; exact ⟨mon_left s _ _ _ hs.1 h.1, mon_left u _ _ _ hs.2 h.2⟩
  | .fn s u, a, b, v, hs, h => by simp only [Ty.bare, Bool.and_eq_true] at hs; exact fun c w hw => mon_left u _ _ _ hs.2 (h c w hw)

theorem mon_dmax : ∀ (s : Ty) (a b a' b' : s.den), s.bare = true → Mon s a a' → Mon s b b' → Mon s (dmax s a b) (dmax s a' b')
  | .nat, a, b, a', b', _, h1, h2 => nat_m a b a' b' h1 h2
  | .list, a, b, a', b', hs, _, _ => by simp [Ty.bare] at hs
  | .unit, _, _, _, _, _, _, _ => trivial
  | .pair s u, a, b, a', b', hs, h1, h2 => by simp only [Ty.bare, Bool.and_eq_true] at hs; exact ⟨mon_dmax s _ _ _ _ hs.1 h1.1 h2.1, mon_dmax u _ _ _ _ hs.2 h1.2 h2.2⟩
  | .fn s u, a, b, a', b', hs, h1, h2 => by simp only [Ty.bare, Bool.and_eq_true] at hs; exact fun c w hw => mon_dmax u _ _ _ _ hs.2 (h1 c w hw) (h2 c w hw)

theorem look_star {g : List Ty} {i : Nat} {s : Ty} {p : Env g → s.den} (h : Look g i s p) :
    ∃ p', Look (g.map Ty.star) i s.star p' ∧ (∀ a ρ, EnvMaj g a ρ → Maj s (p' a) (p ρ)) ∧ (∀ a b, EnvMon (g.map Ty.star) a b → Mon s.star (p' a) (p' b)) := by
  induction h with
  | here => exact ⟨_, .here, fun a ρ h => h.1, fun a b h => h.1⟩
  | there _ ih => obtain ⟨p', h1, h2, h3⟩ := ih; exact ⟨_, .there h1, fun a ρ h => h2 _ _ h.2, fun a b h => h3 _ _ h.2⟩

theorem natRec_maj {s : Ty} {b : s.star.den} {b' : s.den} {f : Nat → s.star.den → s.star.den} {f' : Nat → s.den → s.den} (hb : Maj s b b') (hf : Maj (.fn .nat (.fn s s)) f f') :
    ∀ k m, m ≤ k → Maj s (natRec b (fun n r => dmax s.star r (f n r)) k) (natRec b' f' m) := by
  have same : ∀ k, Maj s (natRec b (fun n r => dmax s.star r (f n r)) k) (natRec b' f' k) := by
    intro k
    induction k with
    | zero => exact hb
    | succ k ih => exact maj_right s _ _ _ (hf k k (Nat.le_refl k) _ _ ih)
  intro k
  induction k with
  | zero => intro m hm; obtain rfl : m = 0 := by omega
            exact hb
  | succ k ih =>
    intro m hm
    by_cases h : m = k + 1
    · subst h; exact same _
    · exact maj_left s _ _ _ (ih m (by omega))

theorem listRec_maj {s : Ty} {b : s.star.den} {b' : s.den} {f : Nat → Nat → s.star.den → s.star.den} {f' : Nat → List Nat → s.den → s.den} (hb : Maj s b b') (hf : Maj (.fn .nat (.fn .list (.fn s s))) f f') (n : Nat) :
    ∀ (l : List Nat) (k : Nat), l.length ≤ k → l.length ≤ n → (∀ x ∈ l, x ≤ n) → Maj s (natRec b (fun _ r => dmax s.star r (f n n r)) k) (listRec b' f' l) := by
  intro l k
  induction k generalizing l with
  | zero =>
    intro h1 _ _
    obtain rfl : l = [] := List.eq_nil_of_length_eq_zero (by omega)
    exact hb
  | succ k ih =>
    intro h1 h2 h3
    by_cases h : l.length ≤ k
    · exact maj_left s _ _ _ (ih l h h2 h3)
    · cases l with
      | nil => simp at h
      | cons x t =>
        simp only [List.length_cons] at h1 h2 h
        refine maj_right s _ _ _ (hf n x (h3 x (by simp)) n t ⟨by omega, fun y hy => h3 y (by simp [hy])⟩ _ _ ?_)
        exact ih t (by omega) (by omega) (fun y hy => h3 y (by simp [hy]))

theorem natRec_mon {s : Ty} (hs : s.bare = true) {b b' : s.den} {f f' : Nat → s.den → s.den} (hb : Mon s b b') (hf : Mon (.fn .nat (.fn s s)) f f') :
    ∀ k m, m ≤ k → Mon s (natRec b (fun n r => dmax s r (f n r)) k) (natRec b' (fun n r => dmax s r (f' n r)) m) := by
  have same : ∀ k, Mon s (natRec b (fun n r => dmax s r (f n r)) k) (natRec b' (fun n r => dmax s r (f' n r)) k) := by
    intro k
    induction k with
    | zero => exact hb
    | succ k ih => exact mon_dmax s _ _ _ _ hs ih (hf k k (Nat.le_refl k) _ _ ih)
  intro k
  induction k with
  | zero => intro m hm; obtain rfl : m = 0 := by omega
            exact hb
  | succ k ih =>
    intro m hm
    by_cases h : m = k + 1
    · subst h; exact same _
    · exact mon_left s _ _ _ hs (ih m (by omega))

theorem natRec_mon2 {s : Ty} (hs : s.bare = true) {b b' : s.den} {f f' : Nat → Nat → s.den → s.den} (hb : Mon s b b') (hf : Mon (.fn .nat (.fn .nat (.fn s s))) f f') (n n' : Nat) (hn : n' ≤ n) :
    ∀ k m, m ≤ k → Mon s (natRec b (fun _ r => dmax s r (f n n r)) k) (natRec b' (fun _ r => dmax s r (f' n' n' r)) m) :=
  natRec_mon hs hb (f := fun _ r => f n n r) (f' := fun _ r => f' n' n' r) (fun _ _ _ x y hxy => hf n n' hn n n' hn x y hxy)

/-- THE THEOREM OF MAJORANTS. -/
theorem Sem.star {g : List Ty} {t : Tm} {s : Ty} {d : Env g → s.den} (h : Sem g t s d) :
    ∃ d', Sem (g.map Ty.star) t.star s.star d' ∧ (∀ a ρ, EnvMaj g a ρ → Maj s (d' a) (d ρ)) ∧ (∀ a b, EnvMon (g.map Ty.star) a b → Mon s.star (d' a) (d' b)) := by
  induction h with
  | var hl => obtain ⟨p, h1, h2, h3⟩ := look_star hl; exact ⟨p, .var h1, h2, h3⟩
  | lam _ ih =>
    obtain ⟨d', h1, h2, h3⟩ := ih
    exact ⟨_, .lam h1, fun a ρ h b w hw => h2 _ _ ⟨hw, h⟩, fun a b h x y hx => h3 _ _ ⟨hx, h⟩⟩
  | app _ _ ih1 ih2 =>
    obtain ⟨d1, h1, h2, h3⟩ := ih1
    obtain ⟨e1, g1, g2, g3⟩ := ih2
    exact ⟨_, .app h1 g1, fun a ρ h => h2 a ρ h _ _ (g2 a ρ h), fun a b h => h3 a b h _ _ (g3 a b h)⟩
  | zero => exact ⟨_, .zero, fun _ _ _ => Nat.le_refl 0, fun _ _ _ => Nat.le_refl 0⟩
  | succ _ ih =>
    obtain ⟨d', h1, h2, h3⟩ := ih
    exact ⟨_, .succ h1, fun a ρ h => Nat.succ_le_succ (h2 a ρ h), fun a b h => Nat.succ_le_succ (h3 a b h)⟩
  | @recn g s b f n db df dn _ _ _ ih1 ih2 ih3 =>
    obtain ⟨d1, a1, a2, a3⟩ := ih1
    obtain ⟨d2, b1, b2, b3⟩ := ih2
    obtain ⟨d3, c1, c2, c3⟩ := ih3
    refine ⟨fun ρ => natRec (d1 ρ) (fun n r => dmax s.star r (d2 ρ n r)) (d3 ρ), ?_, ?_, ?_⟩
    · refine .recn a1 (.lam (.lam (sem_mx _ _ _ _ _ _ (Ty.bare_star s) (.var .here) (.app (.app (b1.up (h := [s.star, .nat])) (.var (.there .here))) (.var .here))))) c1
    · exact fun a ρ h => natRec_maj (a2 a ρ h) (b2 a ρ h) _ _ (c2 a ρ h)
    · exact fun a b h => natRec_mon (Ty.bare_star s) (a3 a b h) (b3 a b h) _ _ (c3 a b h)
  | nil => exact ⟨_, .zero, fun _ _ _ => ⟨Nat.le_refl 0, fun x hx => by cases hx⟩, fun _ _ _ => Nat.le_refl 0⟩
  | cons _ _ ih1 ih2 =>
    obtain ⟨d1, a1, a2, a3⟩ := ih1
    obtain ⟨d2, b1, b2, b3⟩ := ih2
    refine ⟨_, sem_mx .nat _ _ _ _ _ rfl a1 (.succ b1), ?_, ?_⟩
    · intro a ρ h
      have h1 := a2 a ρ h
      have h2 := b2 a ρ h
      refine ⟨nat_r _ _ _ (Nat.succ_le_succ h2.1), ?_⟩
      intro x hx
      rcases List.mem_cons.1 hx with rfl | hx
      · exact nat_l _ _ _ h1
      · exact nat_r _ _ _ (Nat.le_succ_of_le (h2.2 x hx))
    · intro a b h
      exact nat_m _ _ _ _ (a3 a b h) (Nat.succ_le_succ (b3 a b h))
  | @fold g s b f l db df dl _ _ _ ih1 ih2 ih3 =>
    obtain ⟨d1, a1, a2, a3⟩ := ih1
    obtain ⟨d2, b1, b2, b3⟩ := ih2
    obtain ⟨d3, c1, c2, c3⟩ := ih3
    refine ⟨fun ρ => natRec (d1 ρ) (fun _ r => dmax s.star r (d2 ρ (d3 ρ) (d3 ρ) r)) (d3 ρ), ?_, ?_, ?_⟩
    · refine Sem.app (d := fun ρ x => natRec (d1 ρ) (fun _ r => dmax s.star r (d2 ρ x x r)) x) ?_ c1
      exact (.lam (.recn (a1.up (h := [.nat])) (.lam (.lam (sem_mx _ _ _ _ _ _ (Ty.bare_star s) (.var .here) (.app (.app (.app (b1.up (h := [s.star, .nat, .nat])) (.var (.there (.there .here)))) (.var (.there (.there .here)))) (.var .here))))) (.var .here)))
    · exact fun a ρ h => listRec_maj (a2 a ρ h) (b2 a ρ h) _ _ _ (c2 a ρ h).1 (c2 a ρ h).1 (c2 a ρ h).2
    · exact fun a b h => natRec_mon2 (Ty.bare_star s) (a3 a b h) (b3 a b h) _ _ (c3 a b h) _ _ (c3 a b h)
  | pair _ _ ih1 ih2 =>
    obtain ⟨d1, a1, a2, a3⟩ := ih1
    obtain ⟨d2, b1, b2, b3⟩ := ih2
    exact ⟨_, .pair a1 b1, fun a ρ h => ⟨a2 a ρ h, b2 a ρ h⟩, fun a b h => ⟨a3 a b h, b3 a b h⟩⟩
  | fst _ ih =>
    obtain ⟨d', h1, h2, h3⟩ := ih
    exact ⟨_, .fst h1, fun a ρ h => (h2 a ρ h).1, fun a b h => (h3 a b h).1⟩
  | snd _ ih =>
    obtain ⟨d', h1, h2, h3⟩ := ih
    exact ⟨_, .snd h1, fun a ρ h => (h2 a ρ h).2, fun a b h => (h3 a b h).2⟩
  | unit => exact ⟨_, .unit, fun _ _ _ => trivial, fun _ _ _ => trivial⟩

end T
end Go.Proofs.YthclcchnodjjpaaGreatDoor
/- PURE THEORY 4: putting a term in can be done before or behind the making of majorants. -/
set_option linter.unusedVariables false
set_option linter.unusedSimpArgs false
namespace Go.Proofs.YthclcchnodjjpaaGreatDoor
namespace T

def upS (σ : Nat → Tm) : Nat → Tm
  | 0 => .var 0
  | i + 1 => (σ i).ren Nat.succ

def Tm.subst : (Nat → Tm) → Tm → Tm
  | σ, .var i => σ i
  | σ, .lam s b => .lam s (b.subst (upS σ))
  | σ, .app f a => .app (f.subst σ) (a.subst σ)
  | _, .zero => .zero
  | σ, .succ a => .succ (a.subst σ)
  | σ, .recn s b f a => .recn s (b.subst σ) (f.subst σ) (a.subst σ)
  | _, .nil => .nil
  | σ, .cons h l => .cons (h.subst σ) (l.subst σ)
  | σ, .fold s b f l => .fold s (b.subst σ) (f.subst σ) (l.subst σ)
  | σ, .pair a b => .pair (a.subst σ) (b.subst σ)
  | σ, .fst p => .fst (p.subst σ)
  | σ, .snd p => .snd (p.subst σ)
  | _, .unit => .unit

theorem Tm.subst_congr (t : Tm) : ∀ {σ τ : Nat → Tm}, (∀ i, σ i = τ i) → t.subst σ = t.subst τ := by
  induction t with
  | lam s b ih =>
    intro σ τ h
    simp only [Tm.subst, Tm.lam.injEq, true_and]
    refine ih ?_
    intro i; cases i with
    | zero => rfl
    | succ i => simp [upS, h i]
  | app f a ih1 ih2 => intro r r' h; simp only [Tm.subst, ih1 h, ih2 h]
  | recn s b f n ih1 ih2 ih3 => intro r r' h; simp only [Tm.subst, ih1 h, ih2 h, ih3 h]
  | fold s b f n ih1 ih2 ih3 => intro r r' h; simp only [Tm.subst, ih1 h, ih2 h, ih3 h]
  | cons a b ih1 ih2 => intro r r' h; simp only [Tm.subst, ih1 h, ih2 h]
  | pair a b ih1 ih2 => intro r r' h; simp only [Tm.subst, ih1 h, ih2 h]
  | succ a ih => intro r r' h; simp only [Tm.subst, ih h]
  | fst a ih => intro r r' h; simp only [Tm.subst, ih h]
  | snd a ih => intro r r' h; simp only [Tm.subst, ih h]
  | var i => intro r r' h; simp only [Tm.subst, h]
  | _ => intro r r' h; rfl

theorem Tm.ren_subst (t : Tm) : ∀ (r : Nat → Nat) (σ : Nat → Tm), (t.ren r).subst σ = t.subst (fun i => σ (r i)) := by
  induction t with
  | lam s b ih =>
    intro r σ
    simp only [Tm.ren, Tm.subst, ih]
    refine congrArg _ (Tm.subst_congr b ?_)
    intro i; cases i <;> rfl
  | _ => intro r σ; simp_all only [Tm.ren, Tm.subst]

theorem Tm.subst_ren (t : Tm) : ∀ (σ : Nat → Tm) (r : Nat → Nat), (t.subst σ).ren r = t.subst (fun i => (σ i).ren r) := by
  induction t with
  | lam s b ih =>
    intro σ r
    simp only [Tm.ren, Tm.subst, ih]
    refine congrArg _ (Tm.subst_congr b ?_)
    intro i; cases i with
    | zero => rfl
    | succ i => simp only [upS, Tm.ren_ren]; exact Tm.ren_congr _ (fun j => rfl)
  | _ => intro σ r; simp_all only [Tm.ren, Tm.subst]

theorem Tm.ren_var (t : Tm) : ∀ (r : Nat → Nat), t.ren r = t.subst (fun i => .var (r i)) := by
  induction t with
  | lam s b ih =>
    intro r
    simp only [Tm.ren, Tm.subst, ih]
    refine congrArg _ (Tm.subst_congr b ?_)
    intro i; cases i <;> rfl
  | _ => intro r; simp_all only [Tm.ren, Tm.subst]

def putS (x : Tm) (k : Nat) (i : Nat) : Tm := if i = k then x.lift k 0 else if k < i then .var (i - 1) else .var i

theorem up_putS (x : Tm) (k : Nat) (i : Nat) : upS (putS x k) i = putS x (k + 1) i := by
  cases i with
  | zero => simp [upS, putS]
  | succ i =>
    simp only [upS, putS]
    by_cases h1 : i = k
    · subst h1
      simp only [if_true, Tm.lift_ren, Tm.ren_ren]
      exact Tm.ren_congr _ (fun j => by simp; omega)
    · by_cases h2 : k < i
      · have h3 : ¬ i + 1 = k + 1 := by omega
        have h4 : k + 1 < i + 1 := by omega
        simp only [h1, h2, h3, h4, if_true, if_false, Tm.ren]
        exact congrArg _ (by omega)
      · have h3 : ¬ i + 1 = k + 1 := by omega
        have h4 : ¬ k + 1 < i + 1 := by omega
        simp only [h1, h2, h3, h4, if_false, Tm.ren]

theorem Tm.put_subst (x t : Tm) : ∀ k, Tm.put x k t = t.subst (putS x k) := by
  induction t with
  | var i => intro k; rfl
  | lam s b ih => intro k; simp only [Tm.put, Tm.subst, ih]; exact congrArg _ (Tm.subst_congr b (fun i => (up_putS x k i).symm))
  | _ => intro k; simp_all only [Tm.put, Tm.subst]

/-- A lift above where the term is put in. -/
theorem Tm.put_lift (x t : Tm) (n k : Nat) : Tm.put x (k + n) (t.lift n 0) = (Tm.put x k t).lift n 0 := by
  rw [Tm.put_subst, Tm.put_subst, Tm.lift_ren, Tm.lift_ren, Tm.ren_subst, Tm.subst_ren]
  refine Tm.subst_congr t ?_
  intro i
  simp only [Nat.zero_le, if_true, putS]
  by_cases h1 : i = k
  · subst h1
    simp only [if_true, Tm.lift_ren, Tm.ren_ren]
    exact Tm.ren_congr _ (fun j => by simp; omega)
  · have h3 : ¬ i + n = k + n := by omega
    by_cases h2 : k < i
    · have h4 : k + n < i + n := by omega
      simp only [h1, h2, h3, h4, if_true, if_false, Tm.ren, Nat.zero_le]
      exact congrArg _ (by omega)
    · have h4 : ¬ k + n < i + n := by omega
      simp only [h1, h2, h3, h4, if_false, if_true, Tm.ren, Nat.zero_le]

theorem Tm.lift_lift (t : Tm) (n m k : Nat) : (t.lift n 0).lift m (k + n) = (t.lift m k).lift n 0 := by
  rw [Tm.lift_ren, Tm.lift_ren, Tm.lift_ren, Tm.lift_ren, Tm.ren_ren, Tm.ren_ren]
  refine Tm.ren_congr t ?_
  intro i
  by_cases h : k ≤ i
  · have h2 : k + n ≤ i + n := by omega
    simp only [Nat.zero_le, if_true, h, h2]; omega
  · have h2 : ¬ k + n ≤ i + n := by omega
    simp only [Nat.zero_le, if_true, h, h2, if_false]

theorem Tm.lift_add (t : Tm) (n m : Nat) : (t.lift n 0).lift m 0 = t.lift (n + m) 0 := by
  rw [Tm.lift_ren, Tm.lift_ren, Tm.lift_ren, Tm.ren_ren]
  exact Tm.ren_congr t (fun i => by simp; omega)

theorem greater_lift (n k : Nat) : greater.lift n k = greater := by
  simp [greater, plus, sub, pred, Tm.lift]
theorem greater_put (x : Tm) (k : Nat) : Tm.put x k greater = greater := by
  simp [greater, plus, sub, pred, Tm.put]

theorem mx_lift : ∀ (s : Ty) (a b : Tm) (n k : Nat), (mx s a b).lift n k = mx s (a.lift n k) (b.lift n k)
  | .nat, a, b, n, k => by simp only [mx, Tm.lift, greater_lift]
  | .list, a, b, n, k => rfl
  | .unit, a, b, n, k => rfl
  | .pair s u, a, b, n, k => by simp only [mx, Tm.lift, mx_lift s, mx_lift u]
  | .fn s u, a, b, n, k => by
    simp only [mx, Tm.lift, mx_lift u, Tm.lift_lift]
    simp

theorem mx_put (x : Tm) : ∀ (s : Ty) (a b : Tm) (k : Nat), Tm.put x k (mx s a b) = mx s (Tm.put x k a) (Tm.put x k b)
  | .nat, a, b, k => by simp only [mx, Tm.put, greater_put]
  | .list, a, b, k => rfl
  | .unit, a, b, k => rfl
  | .pair s u, a, b, k => by simp only [mx, Tm.put, mx_put x s, mx_put x u]
  | .fn s u, a, b, k => by
    simp only [mx, Tm.put, mx_put x u, Tm.put_lift]
    simp

theorem Tm.star_lift (t : Tm) : ∀ (n k : Nat), (t.lift n k).star = t.star.lift n k := by
  induction t with
  | var i => intro n k; simp only [Tm.lift, Tm.star]; split <;> rfl
  | lam s b ih => intro n k; simp only [Tm.lift, Tm.star, ih]
  | recn s b f a ih1 ih2 ih3 =>
    intro n k
    simp only [Tm.lift, Tm.star, ih1, ih2, ih3, mx_lift]
    rw [show k + 1 + 1 = k + 2 from rfl, Tm.lift_lift]
    simp
  | fold s b f a ih1 ih2 ih3 =>
    intro n k
    simp only [Tm.lift, Tm.star, ih1, ih2, ih3, mx_lift]
    rw [show k + 1 + 1 + 1 = k + 3 from rfl, Tm.lift_lift, Tm.lift_lift]
    simp
  | cons h l ih1 ih2 => intro n k; simp only [Tm.lift, Tm.star, ih1, ih2, mx_lift]
  | _ => intro n k; simp_all only [Tm.lift, Tm.star]

/-- PUTTING IN, BEFORE OR AFTER. -/
theorem Tm.star_put (x t : Tm) : ∀ (k : Nat), (Tm.put x k t).star = Tm.put x.star k t.star := by
  induction t with
  | var i =>
    intro k
    simp only [Tm.put, Tm.star]
    split
    · exact Tm.star_lift _ _ _
    · split <;> rfl
  | lam s b ih => intro k; simp only [Tm.put, Tm.star, ih]
  | recn s b f a ih1 ih2 ih3 =>
    intro k
    simp only [Tm.put, Tm.star, ih1, ih2, ih3, mx_put]
    rw [show k + 1 + 1 = k + 2 from rfl, Tm.put_lift]
    simp
  | fold s b f a ih1 ih2 ih3 =>
    intro k
    simp only [Tm.put, Tm.star, ih1, ih2, ih3, mx_put]
    rw [show k + 1 + 1 + 1 = k + 3 from rfl, Tm.put_lift, Tm.put_lift]
    have h : ¬ k + 3 < 2 := by omega
    simp [h]
  | cons h l ih1 ih2 => intro k; simp only [Tm.put, Tm.star, ih1, ih2, mx_put]
  | _ => intro k; simp_all only [Tm.put, Tm.star]

end T
end Go.Proofs.YthclcchnodjjpaaGreatDoor
