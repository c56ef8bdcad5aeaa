/- WALKING IN T: code by its parts, loops by what stays true. -/
import Derived.Test.YtgkdehfbeejlfaaMc18
set_option linter.unusedVariables false
namespace Go.Proofs.Ytgkdehfbeejlfaa
namespace M

/-! ### Registers -/
def rd (r : Regs) (t : Nat) : AV := r.getD t (.tup [])
theorem ev_tmp (r : Regs) (t : Nat) : ev r (.tmp t) = some (rd r t) := rfl
theorem ev_const (r : Regs) (v : Value) : ev r (.const v) = absV v := rfl
theorem ev_func (r : Regs) (f : Nat) : ev r (.func f) = some (.fn f []) := rfl
theorem res_tmp (cx : Cx) (r : Regs) (S : St) (t : Nat) : resultT cx r S (.tmp t) = some (rd r t) := rfl
theorem res_cell (cx : Cx) (r : Regs) (S : St) (a t : Nat) : resultT cx r S (.cell a t) = loadT cx S t (rd r a) := rfl
theorem rd_zero (v : AV) (r : Regs) : rd (v :: r) 0 = v := rfl
theorem rd_succ (v : AV) (r : Regs) (n : Nat) : rd (v :: r) (n + 1) = rd r n := rfl
theorem rd_nil (n : Nat) : rd [] n = .tup [] := by simp [rd]
theorem rd_same {r : Regs} {i : Nat} (h : i < r.length) (v : AV) : rd (r.set i v) i = v := by simp [rd, List.getD, h]
theorem rd_ne {r : Regs} {i j : Nat} (h : i ≠ j) (v : AV) : rd (r.set i v) j = rd r j := by simp [rd, List.getD, List.getElem?_set_ne h]

theorem cell_int (k : IntKind) (n : Int) : (AV.int k n).isCell = true := rfl
theorem cell_bool (b : Bool) : (AV.bool b).isCell = true := rfl
theorem cell_sl (es : List (List AV)) (o : Own) : (AV.sl es o).isCell = true := rfl
theorem cell_row (b n : Nat) : (AV.row b n).isCell = true := rfl
theorem cell_loc (b n : Nat) : (AV.loc b n).isCell = true := rfl
theorem cell_rp (cs : List AV) : (AV.rp cs).isCell = true := rfl
theorem cell_nilp : AV.nilp.isCell = true := rfl
theorem cell_fn (f : Nat) (cs : List AV) : (AV.fn f cs).isCell = true := rfl
theorem cell_nilf : AV.nilf.isCell = true := rfl
theorem cell_iface (t : Nat) (v : AV) : (AV.iface t v).isCell = true := rfl
theorem cell_nili : AV.nili.isCell = true := rfl
theorem cells_agg (cs : List AV) : (AV.agg cs).cells = cs := rfl
theorem cells_int (k : IntKind) (n : Int) : (AV.int k n).cells = [.int k n] := rfl
theorem cells_bool (b : Bool) : (AV.bool b).cells = [.bool b] := rfl
theorem cells_sl (es : List (List AV)) (o : Own) : (AV.sl es o).cells = [.sl es o] := rfl
theorem cells_rp (cs : List AV) : (AV.rp cs).cells = [.rp cs] := rfl
theorem cells_nilp : AV.nilp.cells = [.nilp] := rfl
theorem cells_iface (t : Nat) (v : AV) : (AV.iface t v).cells = [.iface t v] := rfl
theorem cells_fn (f : Nat) (cs : List AV) : (AV.fn f cs).cells = [.fn f cs] := rfl
theorem cells_loc (b n : Nat) : (AV.loc b n).cells = [.loc b n] := rfl

/-! ### The store -/
def sd (σ : List (List AV)) (b : Nat) : Option (List AV) := σ[b]?
def td (tk : List Nat) (b : Nat) : Option Nat := tk[b]?
theorem load_loc (cx : Cx) (S : St) (t b off : Nat) : loadT cx S t (.loc b off) = (cx.ty t).bind fun ti => (sd S.σ b).bind fun cs => if 0 < ti.size ∧ off + ti.size ≤ cs.length then mk ti ((cs.drop off).take ti.size) else none := rfl
theorem load_rp (cx : Cx) (S : St) (t : Nat) (cs : List AV) : loadT cx S t (.rp cs) = (cx.ty t).bind fun ti => if ti.size ≤ cs.length then mk ti (cs.take ti.size) else none := rfl
theorem store_loc (cx : Cx) (S : St) (t : Nat) (v : AV) (b off : Nat) : storeT cx S t v (.loc b off) = (cx.ty t).bind fun ti => (sd S.σ b).bind fun cs =>
      if v.cells.length = ti.size ∧ 0 < ti.size ∧ off + ti.size ≤ cs.length ∧ v.cells.all AV.isCell = true then some { S with σ := S.σ.set b (splice cs off v.cells) } else none := rfl
theorem append_tok (te : TI) (S : St) (es : List (List AV)) (n v : Nat) (xs : List (List AV)) : appendE te S es (.tok n v) xs =
  if xs = [] then some (.sl es (.tok n v), S)
  else if (es.length + xs.length) * te.bytes ≤ 70368744177664 ∧ 0 < te.bytes ∧ 0 < te.size ∧ (es ++ xs).all (fun c => c.length == te.size) = true then
    if td S.tk n = some v ∧ es.isEmpty = false then some (.sl (es ++ xs) (.tok n (v + 1)), { S with tk := S.tk.set n (v + 1) }) else none
  else none := rfl
theorem append_full (te : TI) (S : St) (es : List (List AV)) (xs : List (List AV)) : appendE te S es .full xs =
  if xs = [] then some (.sl es .full, S)
  else if (es.length + xs.length) * te.bytes ≤ 70368744177664 ∧ 0 < te.bytes ∧ 0 < te.size ∧ (es ++ xs).all (fun c => c.length == te.size) = true then
    some (.sl (es ++ xs) (.tok S.tk.length 0), { S with tk := S.tk ++ [0] })
  else none := rfl
theorem sd_zero (c : List AV) (σ : List (List AV)) : sd (c :: σ) 0 = some c := by simp [sd]
theorem sd_succ (c : List AV) (σ : List (List AV)) (n : Nat) : sd (c :: σ) (n + 1) = sd σ n := by simp [sd]
theorem sd_nil (n : Nat) : sd [] n = none := by simp [sd]
theorem sd_same {σ : List (List AV)} {i : Nat} (h : i < σ.length) (c : List AV) : sd (σ.set i c) i = some c := by simp [sd, h]
theorem sd_ne {σ : List (List AV)} {i j : Nat} (h : i ≠ j) (c : List AV) : sd (σ.set i c) j = sd σ j := by simp [sd, List.getElem?_set_ne h]
theorem sd_last (σ : List (List AV)) (c : List AV) : sd (σ ++ [c]) σ.length = some c := by simp [sd]
theorem sd_app {σ : List (List AV)} {i : Nat} (h : i < σ.length) (c : List (List AV)) : sd (σ ++ c) i = sd σ i := by simp [sd, List.getElem?_append_left h]
theorem td_zero (c : Nat) (σ : List Nat) : td (c :: σ) 0 = some c := by simp [td]
theorem td_succ (c : Nat) (σ : List Nat) (n : Nat) : td (c :: σ) (n + 1) = td σ n := by simp [td]
theorem td_same {σ : List Nat} {i : Nat} (h : i < σ.length) (c : Nat) : td (σ.set i c) i = some c := by simp [td, h]
theorem td_ne {σ : List Nat} {i j : Nat} (h : i ≠ j) (c : Nat) : td (σ.set i c) j = td σ j := by simp [td, List.getElem?_set_ne h]
theorem td_last (σ : List Nat) (c : Nat) : td (σ ++ [c]) σ.length = some c := by simp [td]
theorem td_app {σ : List Nat} {i : Nat} (h : i < σ.length) (c : List Nat) : td (σ ++ c) i = td σ i := by simp [td, List.getElem?_append_left h]

theorem fz_is (σ : List (List AV)) (n : Nat) : ∀ k, ∃ g, fz σ n k = mapLoc g
  | 0 => ⟨_, rfl⟩
  | k + 1 => ⟨_, rfl⟩

/-- The one slice of a function that grows by append, after i of them, with the tokens. -/
def grownO (i : Nat) : Own := if i = 0 then .full else .tok 0 (i - 1)
def grownT (i : Nat) : List Nat := if i = 0 then [] else [i - 1]
theorem append_grow (te : TI) (σ : List (List AV)) (es : List (List AV)) (i : Nat) (x : List AV) (hl : es.length = i) (hroom : (i + 1) * te.bytes ≤ 70368744177664) (hb : 0 < te.bytes) (hs : 0 < te.size) (hz : ∀ c ∈ es, c.length = te.size) (hx : x.length = te.size) :
    appendE te ⟨σ, grownT i⟩ es (grownO i) [x] = some (.sl (es ++ [x]) (grownO (i + 1)), ⟨σ, grownT (i + 1)⟩) := by
  have hc : (es.length + [x].length) * te.bytes ≤ 70368744177664 ∧ 0 < te.bytes ∧ 0 < te.size ∧ (es ++ [x]).all (fun c => c.length == te.size) = true :=
    ⟨by simpa [hl] using hroom, hb, hs, by simp only [List.all_append, Bool.and_eq_true, List.all_eq_true, beq_iff_eq]; exact ⟨hz, by simp [hx]⟩⟩
  unfold appendE grownO grownT
  rw [if_neg (by simp), if_pos hc]
  by_cases h0 : i = 0
  · subst h0; simp
  · have hne : es ≠ [] := fun e => h0 (by rw [← hl, e]; rfl)
    simp [h0, hne]
    omega

section
variable {cx : Cx} {E : Oracle} {f : Nat}

/-- The code runs, and K holds of where it ends. -/
def Wp (cx : Cx) (E : Oracle) (f : Nat) (c : Code) (r : Regs) (S : St) (K : Ex → Regs → St → Prop) : Prop := ∃ o, codeT (cx.at f) (den cx E) (lup cx E f) c r S = some o ∧ K o.ex o.r o.S

def thenK (K : Ex → Regs → St → Prop) (next : Regs → St → Prop) : Ex → Regs → St → Prop
  | .normal, r, S => next r S
  | e, r, S => K e r S

def blockK (id : Nat) (K : Ex → Regs → St → Prop) : Ex → Regs → St → Prop
  | .exit i, r, S => if i = id then K .normal r S else K (.exit i) r S
  | e, r, S => K e r S

variable {K : Ex → Regs → St → Prop} {r : Regs} {S : St}

theorem Wp.mono {c : Code} {K' : Ex → Regs → St → Prop} (h : Wp cx E f c r S K) (hk : ∀ e r S, K e r S → K' e r S) : Wp cx E f c r S K' := by
  obtain ⟨o, h1, h2⟩ := h
  exact ⟨o, h1, hk _ _ _ h2⟩

theorem Wp.skip (h : K .normal r S) : Wp cx E f .skip r S K := ⟨_, rfl, h⟩
theorem Wp.ret (h : K .ret r S) : Wp cx E f .ret r S K := ⟨_, rfl, h⟩
theorem Wp.exit {id : Nat} (h : K (.exit id) r S) : Wp cx E f (.exit id) r S K := ⟨_, rfl, h⟩

theorem Wp.seq {a b : Code} (h : Wp cx E f a r S (thenK K fun r S => Wp cx E f b r S K)) : Wp cx E f (.seq a b) r S K := by
  obtain ⟨o, h1, h2⟩ := h
  cases he : o.ex with
  | normal =>
    rw [he] at h2
    obtain ⟨p, h3, h4⟩ := h2
    exact ⟨p, by simp only [codeT, h1, Option.bind_some, he]; exact h3, h4⟩
  | exit i => rw [he] at h2; exact ⟨o, by simp only [codeT, h1, Option.bind_some, he], by rw [he]; exact h2⟩
  | ret => rw [he] at h2; exact ⟨o, by simp only [codeT, h1, Option.bind_some, he], by rw [he]; exact h2⟩

theorem Wp.block {id : Nat} {b : Code} (h : Wp cx E f b r S (blockK id K)) : Wp cx E f (.block id b) r S K := by
  obtain ⟨o, h1, h2⟩ := h
  refine ⟨match o.ex with | .exit i => if i = id then ⟨.normal, o.r, o.S⟩ else o | _ => o, by simp only [codeT, h1, Option.map_some]; rfl, ?_⟩
  cases he : o.ex with
  | normal => rw [he] at h2; simp only [he]; exact h2
  | exit i =>
    rw [he] at h2
    simp only
    simp only [blockK] at h2
    split at h2
    · rename_i hi; rw [if_pos hi]; exact h2
    · rename_i hi; rw [if_neg hi, he]; exact h2
  | ret => rw [he] at h2; simp only [he]; exact h2

theorem Wp.cond {c : Operand} {a b : Code} {t : Bool} (hc : ev r c = some (.bool t)) (h : if t = true then Wp cx E f a r S K else Wp cx E f b r S K) : Wp cx E f (.cond c a b) r S K := by
  cases t with
  | true => obtain ⟨o, h1, h2⟩ := h; exact ⟨o, by simp only [codeT, hc, Option.bind_some, asBoolT, if_true]; exact h1, h2⟩
  | false => obtain ⟨o, h1, h2⟩ := h; exact ⟨o, by simp only [codeT, hc, Option.bind_some, asBoolT, Bool.false_eq_true, if_false]; exact h1, h2⟩

theorem Wp.region {id : Nat} {ops : Array Oper} {x : Regs × St} (h : opsT (cx.at f) (den cx E) ops ops.toList r S = some x) (hk : K .normal x.1 x.2) : Wp cx E f (.region id ops false) r S K :=
  ⟨⟨.normal, x.1, x.2⟩, by simp only [codeT, h, Option.map_some], hk⟩

theorem Wp.any {id : Nat} {ops : Array Oper} {x : Regs × St} (h : opsT (cx.at f) (den cx E) ops ops.toList r S = some x) (ha : apartT x.1 ops (cx.lt f id) = true) (hk : K .normal x.1 x.2) : Wp cx E f (.region id ops true) r S K :=
  ⟨⟨.normal, x.1, x.2⟩, by simp only [codeT, h, Option.bind_some]; exact if_pos ha, hk⟩

theorem Wp.seqR {id : Nat} {ops : Array Oper} {b : Code} {x : Regs × St} (h : opsT (cx.at f) (den cx E) ops ops.toList r S = some x) (hk : Wp cx E f b x.1 x.2 K) : Wp cx E f (.seq (.region id ops false) b) r S K := .seq (.region h hk)
theorem Wp.seqA {id : Nat} {ops : Array Oper} {b : Code} {x : Regs × St} (h : opsT (cx.at f) (den cx E) ops ops.toList r S = some x) (ha : apartT x.1 ops (cx.lt f id) = true) (hk : Wp cx E f b x.1 x.2 K) : Wp cx E f (.seq (.region id ops true) b) r S K := .seq (.any h ha hk)
theorem Wp.seqS {a b c : Code} (h : Wp cx E f (.seq a (.seq b c)) r S K) : Wp cx E f (.seq (.seq a b) c) r S K := by
  obtain ⟨o, h1, h2⟩ := h
  refine ⟨o, ?_, h2⟩
  simp only [codeT, Option.bind_eq_some_iff] at h1 ⊢
  obtain ⟨p, h3, h4⟩ := h1
  cases he : p.ex with
  | normal =>
    rw [he] at h4
    obtain ⟨q, h5, h6⟩ := Option.bind_eq_some_iff.1 h4
    exact ⟨q, ⟨p, h3, by rw [he]; exact h5⟩, h6⟩
  | exit i => rw [he] at h4; cases h4; exact ⟨_, ⟨_, h3, by rw [he]⟩, by rw [he]⟩
  | ret => rw [he] at h4; cases h4; exact ⟨_, ⟨_, h3, by rw [he]⟩, by rw [he]⟩
theorem Wp.seqK {b : Code} (h : Wp cx E f b r S K) : Wp cx E f (.seq .skip b) r S K := .seq (.skip h)
theorem Wp.seqT {b : Code} (h : K .ret r S) : Wp cx E f (.seq .ret b) r S K := .seq (.ret h)
theorem Wp.seqE {id : Nat} {b : Code} (h : K (.exit id) r S) : Wp cx E f (.seq (.exit id) b) r S K := .seq (.exit h)
theorem Wp.seqC {c : Operand} {a b d : Code} {t : Bool} (hc : ev r c = some (.bool t)) (h : if t = true then Wp cx E f (.seq a d) r S K else Wp cx E f (.seq b d) r S K) : Wp cx E f (.seq (.cond c a b) d) r S K := by
  refine .seq (.cond hc ?_)
  have back : ∀ {a : Code}, Wp cx E f (.seq a d) r S K → Wp cx E f a r S (thenK K fun r S => Wp cx E f d r S K) := by
    rintro a ⟨o, h1, h2⟩
    simp only [codeT, Option.bind_eq_some_iff] at h1
    obtain ⟨p, h3, h4⟩ := h1
    refine ⟨p, h3, ?_⟩
    cases he : p.ex with
    | normal => rw [he] at h4; exact ⟨o, h4, h2⟩
    | exit i => rw [he] at h4; cases h4; rw [he] at h2; exact h2
    | ret => rw [he] at h4; cases h4; rw [he] at h2; exact h2
  cases t with
  | true => exact back h
  | false => exact back h
theorem Wp.seqB {id : Nat} {b c : Code} (h : Wp cx E f b r S (blockK id (thenK K fun r S => Wp cx E f c r S K))) : Wp cx E f (.seq (.block id b) c) r S K := .seq (.block h)

/-- A loop: with k to go, what stays true leads to less to go, or out. -/
theorem Wp.loop {b : Code} (Inv : Nat → Regs → St → Prop) (k : Nat) (h0 : Inv k r S) (h : ∀ k r S, Inv k r S → Wp cx E f b r S (thenK K fun r S => ∃ k', k' < k ∧ Inv k' r S)) : Wp cx E f (.loop b) r S K := by
  have key : ∀ n k r S, k = n → Inv k r S → ∃ o, lup cx E f b r S = some o ∧ K o.ex o.r o.S := by
    intro n
    induction n using Nat.strongRecOn with
    | _ n ih =>
      intro k r S hk hi
      obtain ⟨o, h1, h2⟩ := h k r S hi
      cases he : o.ex with
      | normal =>
        rw [he] at h2
        obtain ⟨k', hlt, hi'⟩ := h2
        obtain ⟨p, h3, h4⟩ := ih k' (by omega) k' o.r o.S rfl hi'
        exact ⟨p, lup_step h1 (fun _ => h3) (fun hn => absurd he hn), h4⟩
      | exit i => rw [he] at h2; exact ⟨o, lup_step h1 (fun e => by rw [he] at e; cases e) (fun _ => rfl), by rw [he]; exact h2⟩
      | ret => rw [he] at h2; exact ⟨o, lup_step h1 (fun e => by rw [he] at e; cases e) (fun _ => rfl), by rw [he]; exact h2⟩
  exact key k k r S rfl h0

/-- A function, walked. -/
theorem den_walk {fn : Func} {c : Code} {args : List AV} {σ : List (List AV)} {x : AV × List (List AV)} (hx : cx.ext f = false) (hm : cx.mkf f = false) (hf : cx.P.funcs[f]? = some fn) (hc : fn.body = some c) (hn : (fn.name == "runtime.NumGoroutine") = false)
    (h : Wp cx E f c (args ++ List.replicate (fn.ntmps - args.length) (.tup [])) ⟨σ, []⟩ fun e r S => (match e with | .exit _ => False | _ => True) ∧ ∃ vs, resultsT cx r S fn.results.toList = some vs ∧ ((S.σ.take σ.length).any List.isEmpty || decide (S.σ.length < σ.length)) = false ∧
      x = (fz S.σ σ.length S.σ.length (pack vs), (S.σ.take σ.length).map (·.map dd))) : den cx E f args σ = some x := by
  obtain ⟨o, h1, h2, vs, h3, h4, h5⟩ := h
  refine den_body ?_ hx
  simp only [bodyT, hf, hc, Option.bind_some, hn, Bool.false_eq_true, if_false, h1]
  cases he : o.ex with
  | exit i => rw [he] at h2; exact h2.elim
  | normal => simp only [h3, Option.bind_some, hm, h4, Bool.false_eq_true, if_false, h5]
  | ret => simp only [h3, Option.bind_some, hm, h4, Bool.false_eq_true, if_false, h5]

/-- A function that makes a place, walked. -/
theorem den_mk {fn : Func} {c : Code} {args : List AV} {cs : List AV} (hx : cx.ext f = false) (hm : cx.mkf f = true) (hf : cx.P.funcs[f]? = some fn) (hc : fn.body = some c) (hn : (fn.name == "runtime.NumGoroutine") = false)
    (h : Wp cx E f c (args ++ List.replicate (fn.ntmps - args.length) (.tup [])) ⟨[], []⟩ fun e r S => (match e with | .exit _ => False | _ => True) ∧ ∃ b c0, resultsT cx r S fn.results.toList = some [.loc b 0] ∧ sd S.σ b = some c0 ∧ c0 ≠ [] ∧ cs = c0.map dd) :
    den cx E f args [] = some (.loc 0 0, [cs]) := by
  obtain ⟨o, h1, h2, b, c0, h3, h4, h5, h6⟩ := h
  refine den_body ?_ hx
  have h4' : o.S.σ[b]? = some c0 := h4
  have h5' : ¬ c0.isEmpty = true := by simpa using h5
  simp only [bodyT, hf, hc, Option.bind_some, hn, Bool.false_eq_true, if_false, h1]
  cases he : o.ex with
  | exit i => rw [he] at h2; exact h2.elim
  | normal => simp only [h3, Option.bind_some, hm, if_true, h4', if_neg h5', h6]
  | ret => simp only [h3, Option.bind_some, hm, if_true, h4', if_neg h5', h6]
end

end M
end Go.Proofs.Ytgkdehfbeejlfaa
