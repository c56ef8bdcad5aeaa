/- A part of the proof: Wk, Rw, Rs, RsM, RsL. -/
import Derived.Test.YthclcchnodjjpaaGreatDoorG09
import Derived.Test.YthclcchnodjjpaaGreatDoorG01
/- WALKING, the short way: registers and store as lists that are written out; one rule for each kind of code; loops that name what they change. -/
set_option linter.unusedVariables false
set_option linter.unusedSimpArgs false
namespace Go.Proofs.YthclcchnodjjpaaGreatDoor
namespace M

/-! ### The context at a function: only the loose pairs differ -/
@[simp] theorem at_ty (cx : Cx) (f : Nat) : (cx.at f).ty = cx.ty := rfl
@[simp] theorem at_P (cx : Cx) (f : Nat) : (cx.at f).P = cx.P := rfl
@[simp] theorem at_rf (cx : Cx) (f : Nat) : (cx.at f).rf = cx.rf := rfl
@[simp] theorem at_tt (cx : Cx) (f : Nat) : (cx.at f).tt = cx.tt := rfl
@[simp] theorem at_im (cx : Cx) (f : Nat) : (cx.at f).im = cx.im := rfl
@[simp] theorem at_mkf (cx : Cx) (f : Nat) : (cx.at f).mkf = cx.mkf := rfl
@[simp] theorem at_lt (cx : Cx) (f : Nat) : (cx.at f).lt = cx.lt := rfl

attribute [simp] opsT M.stepT wantedT opT ev_tmp ev_const ev_func rd_zero rd_succ rd_nil res_tmp res_cell evs evp putT absV absCells cells_agg cells_int cells_bool cells_sl cells_rp cells_nilp cells_iface cells_fn cells_loc cell_int cell_bool cell_sl cell_row cell_loc cell_rp cell_nilp cell_fn cell_nilf cell_iface cell_nili load_loc load_rp store_loc append_tok append_full sd_zero sd_succ sd_last td_zero td_succ td_last splice buildT fillT buildSliceT setElems fieldAddrT fieldOf mk TI.isAgg binT intOp asBoolT builtinT appendT intOf applyT mkOp resultsT fieldT isIface typeAssertT nilT AV.notNil isPtr sliceT optNat natOf pack AV.noPl

/-- An element, by its place. -/
def el {α : Type} (l : List α) (i : Nat) : Option α := l[i]?
@[simp] theorem el_map {α β : Type} (f : α → β) (l : List α) (i : Nat) : el (l.map f) i = (el l i).map f := by simp [el]
@[simp] theorem el_nil {α : Type} (i : Nat) : el ([] : List α) i = none := by simp [el]
@[simp] theorem el_zero {α : Type} (a : α) (l : List α) : el (a :: l) 0 = some a := by simp [el]
@[simp] theorem el_succ {α : Type} (a : α) (l : List α) (i : Nat) : el (a :: l) (i + 1) = el l i := by simp [el]
@[simp] theorem el_mid {α : Type} (l m : List α) (a : α) : el (l ++ a :: m) l.length = some a := by simp [el]
@[simp] theorem index_sl (cx : Cx) (t : Nat) (es : List (List AV)) (o : Own) (i : AV) : indexAddrT cx t (.sl es o) i = (cx.ty t).bind fun ti => match ti.kind with
  | .slice e => (cx.ty e).bind fun te => (intOf i).bind fun n => if 0 ≤ n then (el es n.toNat).bind fun c => if c.length = te.size ∧ 0 < te.size then some (.rp c) else none else none
  | .arr len e => (cx.ty e).bind fun te => (intOf i).bind fun n => none
  | _ => none := by
  unfold indexAddrT
  cases hti : cx.ty t with
  | none => rfl
  | some ti =>
    simp only [Option.bind_some]
    cases ti.kind <;> simp [el]
@[simp] theorem index_row (cx : Cx) (t b len : Nat) (i : AV) : indexAddrT cx t (.row b len) i = (cx.ty t).bind fun ti => match ti.kind with
  | .slice e => (cx.ty e).bind fun te => (intOf i).bind fun n => if 0 ≤ n then (if n.toNat < len then some (.loc b (n.toNat * te.size)) else none) else none
  | .arr len e => (cx.ty e).bind fun te => (intOf i).bind fun n => none
  | _ => none := by
  unfold indexAddrT
  cases hti : cx.ty t with
  | none => rfl
  | some ti =>
    simp only [Option.bind_some]
    cases ti.kind <;> simp
@[simp] theorem index_loc (cx : Cx) (t b off : Nat) (i : AV) : indexAddrT cx t (.loc b off) i = (cx.ty t).bind fun ti => match ti.kind with
  | .arr len e => (cx.ty e).bind fun te => (intOf i).bind fun n => if 0 ≤ n ∧ n < len then some (.loc b (off + n.toNat * te.size)) else none
  | .slice e => (cx.ty e).bind fun te => (intOf i).bind fun n => none
  | _ => none := by
  unfold indexAddrT
  cases hti : cx.ty t with
  | none => rfl
  | some ti =>
    simp only [Option.bind_some]
    cases ti.kind <;> simp
@[simp] theorem index_rp (cx : Cx) (t : Nat) (cs : List AV) (i : AV) : indexAddrT cx t (.rp cs) i = (cx.ty t).bind fun ti => match ti.kind with
  | .arr len e => (cx.ty e).bind fun te => (intOf i).bind fun n => if 0 ≤ n ∧ n < len then some (.rp (cs.drop (n.toNat * te.size))) else none
  | .slice e => (cx.ty e).bind fun te => (intOf i).bind fun n => none
  | _ => none := by
  unfold indexAddrT
  cases hti : cx.ty t with
  | none => rfl
  | some ti =>
    simp only [Option.bind_some]
    cases ti.kind <;> simp
@[simp] theorem sd_app_at (σ τ : List (List AV)) (n : Nat) : sd (σ ++ τ) (σ.length + n) = sd τ n := by
  simp only [sd]; rw [List.getElem?_append_right (by omega)]; congr 1; omega
@[simp] theorem sd_app_at0 (σ τ : List (List AV)) : sd (σ ++ τ) σ.length = sd τ 0 := sd_app_at σ τ 0
@[simp] theorem set_app_at {α : Type} (σ τ : List α) (n : Nat) (c : α) : (σ ++ τ).set (σ.length + n) c = σ ++ τ.set n c := by
  rw [List.set_append, if_neg (by omega)]; congr 2; omega
@[simp] theorem set_app_at0 {α : Type} (σ τ : List α) (c : α) : (σ ++ τ).set σ.length c = σ ++ τ.set 0 c := set_app_at σ τ 0 c

@[simp] theorem mapLoc_agg (g : Nat → Nat → AV) (cs : List AV) : mapLoc g (.agg cs) = .agg (cs.map (mapLoc g)) := by
  have : ∀ cs, mapLocs g cs = cs.map (mapLoc g) := fun cs => by induction cs with | nil => rfl | cons a l ih => simp [mapLocs, ih]
  simp [mapLoc, this]
@[simp] theorem mapLoc_tup (g : Nat → Nat → AV) (cs : List AV) : mapLoc g (.tup cs) = .tup (cs.map (mapLoc g)) := by
  have : ∀ cs, mapLocs g cs = cs.map (mapLoc g) := fun cs => by induction cs with | nil => rfl | cons a l ih => simp [mapLocs, ih]
  simp [mapLoc, this]
@[simp] theorem mapLoc_rp (g : Nat → Nat → AV) (cs : List AV) : mapLoc g (.rp cs) = .rp (cs.map (mapLoc g)) := by
  have : ∀ cs, mapLocs g cs = cs.map (mapLoc g) := fun cs => by induction cs with | nil => rfl | cons a l ih => simp [mapLocs, ih]
  simp [mapLoc, this]
@[simp] theorem mapLoc_sl (g : Nat → Nat → AV) (es : List (List AV)) (o : Own) : mapLoc g (.sl es o) = .sl (es.map (List.map (mapLoc g))) .dead := by
  have h1 : ∀ cs, mapLocs g cs = cs.map (mapLoc g) := fun cs => by induction cs with | nil => rfl | cons a l ih => simp [mapLocs, ih]
  have : ∀ es, mapLocss g es = es.map (List.map (mapLoc g)) := fun es => by induction es with | nil => rfl | cons a l ih => simp [mapLocss, ih, h1]
  simp [mapLoc, this]
@[simp] theorem mapLoc_int (g : Nat → Nat → AV) (k : IntKind) (n : Int) : mapLoc g (.int k n) = .int k n := rfl
@[simp] theorem mapLoc_bool (g : Nat → Nat → AV) (b : Bool) : mapLoc g (.bool b) = .bool b := rfl
@[simp] theorem mapLoc_nilp (g : Nat → Nat → AV) : mapLoc g .nilp = .nilp := rfl
@[simp] theorem mapLoc_nilf (g : Nat → Nat → AV) : mapLoc g .nilf = .nilf := rfl
@[simp] theorem mapLoc_nili (g : Nat → Nat → AV) : mapLoc g .nili = .nili := rfl
@[simp] theorem mapLoc_iface (g : Nat → Nat → AV) (t : Nat) (v : AV) : mapLoc g (.iface t v) = .iface t (mapLoc g v) := rfl

/-- A value without places: whatever becomes of places, it stays. -/
def Clean (v : AV) : Prop := ∀ g, mapLoc g v = v

theorem plain_of_clean {v : AV} (h : Clean v) (h1 : ∀ b o, v ≠ .loc b o) (h2 : ∀ f cs, v ≠ .fn f cs) : Plain v := ⟨h _, h1, h2⟩

section
variable {cx : Cx} {E : Oracle} {f : Nat} {K : Ex → Regs → St → Prop} {r : Regs} {S : St}

theorem Wp.condT {c : Operand} {a b : Code} (hc : ev r c = some (.bool true)) (h : Wp cx E f a r S K) : Wp cx E f (.cond c a b) r S K := .cond hc (by simpa using h)
theorem Wp.condF {c : Operand} {a b : Code} (hc : ev r c = some (.bool false)) (h : Wp cx E f b r S K) : Wp cx E f (.cond c a b) r S K := .cond hc (by simpa using h)

theorem thenK_n {next : Regs → St → Prop} (h : next r S) : thenK K next .normal r S := h
theorem thenK_r {next : Regs → St → Prop} (h : K .ret r S) : thenK K next .ret r S := h
theorem thenK_e {next : Regs → St → Prop} {i : Nat} (h : K (.exit i) r S) : thenK K next (.exit i) r S := h
theorem blockK_n {id : Nat} (h : K .normal r S) : blockK id K .normal r S := h
theorem blockK_r {id : Nat} (h : K .ret r S) : blockK id K .ret r S := h
theorem blockK_e {id : Nat} (h : K .normal r S) : blockK id K (.exit id) r S := by simpa [blockK] using h
theorem blockK_o {id i : Nat} (hn : i ≠ id) (h : K (.exit i) r S) : blockK id K (.exit i) r S := by simpa [blockK, hn] using h

/-- Some entries replaced. -/
def upds {α : Type} : List α → List Nat → List α → List α
  | r, w :: W, v :: vs => upds (r.set w v) W vs
  | r, _, _ => r
@[simp] theorem upds_nil {α : Type} (r : List α) (vs : List α) : upds r [] vs = r := by cases vs <;> rfl
@[simp] theorem upds_cons {α : Type} (r : List α) (w : Nat) (W : List Nat) (v : α) (vs : List α) : upds r (w :: W) (v :: vs) = upds (r.set w v) W vs := rfl

theorem upds_length {α : Type} : ∀ (W : List Nat) (vs r : List α), (upds r W vs).length = r.length
  | [], vs, r => by simp
  | w :: W, [], r => rfl
  | w :: W, v :: vs, r => by simp [upds_length W vs]

theorem upds_same {α : Type} (d : α) : ∀ (W : List Nat) (r : List α), (W.all (· < r.length)) = true → upds r W (W.map fun w => r.getD w d) = r
  | [], r, _ => by simp
  | w :: W, r, h => by
    simp only [List.all_cons, Bool.and_eq_true, decide_eq_true_eq] at h
    have e : r.set w (r.getD w d) = r := by
      apply List.ext_getElem?
      intro i
      by_cases hi : w = i
      · subst hi; simp [h.1]
      · simp [List.getElem?_set_ne hi]
    simp only [List.map_cons, upds_cons, e]
    exact upds_same d W r h.2

/-- A loop that changes the registers W and the blocks B (and makes more blocks): I speaks of what these hold. -/
theorem Wp.loopF {b : Code} (W B : List Nat) (I : Nat → (Nat → AV) → (Nat → List AV) → List Nat → Prop) (k : Nat) (hW : (W.all (· < r.length)) = true) (hB : (B.all (· < S.σ.length)) = true)
    (h0 : I k (rd r) (fun b => S.σ.getD b []) S.tk)
    (h : ∀ n w c junk tk r1 σ1, I n w c tk → r1 = upds r W (W.map w) → σ1 = upds S.σ B (B.map c) ++ junk → Wp cx E f b r1 ⟨σ1, tk⟩ (thenK K fun r' S' => r' = upds r W (W.map (rd r')) ∧ (∃ junk', S'.σ = upds S.σ B (B.map fun b => S'.σ.getD b []) ++ junk') ∧ ∃ n', n' < n ∧ I n' (rd r') (fun b => S'.σ.getD b []) S'.tk)) : Wp cx E f (.loop b) r S K := by
  refine .loop (fun n r' S' => ∃ w c junk tk, I n w c tk ∧ r' = upds r W (W.map w) ∧ S' = ⟨upds S.σ B (B.map c) ++ junk, tk⟩) k ?_ ?_
  · refine ⟨_, _, [], _, h0, ?_, ?_⟩
    · exact (upds_same _ W r hW).symm
    · rw [upds_same [] B S.σ hB]; simp
  · rintro n r' S' ⟨w, c, junk, tk, hI, rfl, rfl⟩
    refine (h n w c junk tk _ _ hI rfl rfl).mono fun e r1 S1 hk => ?_
    cases e with
    | normal =>
      obtain ⟨h1, ⟨junk', h2⟩, n', h3, h4⟩ := hk
      exact ⟨n', h3, _, _, junk', _, h4, h1, by rw [← h2]⟩
    | exit i => exact hk
    | ret => exact hk

/-- A part of the code that changes the registers W and the blocks B, whatever way it takes: behind it I is true. -/
theorem Wp.cutF {a : Code} {next : Regs → St → Prop} (W B : List Nat) (I : (Nat → AV) → (Nat → List AV) → List Nat → Prop) (hW : (W.all (· < r.length)) = true) (hB : (B.all (· < S.σ.length)) = true)
    (h1 : Wp cx E f a r S (thenK K fun r' S' => r' = upds r W (W.map (rd r')) ∧ (∃ junk', S'.σ = upds S.σ B (B.map fun b => S'.σ.getD b []) ++ junk') ∧ I (rd r') (fun b => S'.σ.getD b []) S'.tk))
    (h2 : ∀ w c junk tk r1 σ1, I w c tk → r1 = upds r W (W.map w) → σ1 = upds S.σ B (B.map c) ++ junk → next r1 ⟨σ1, tk⟩) : Wp cx E f a r S (thenK K next) := by
  refine h1.mono fun e r1 S1 hk => ?_
  cases e with
  | normal =>
    obtain ⟨g1, ⟨junk', g2⟩, g3⟩ := hk
    have := h2 _ _ junk' _ _ _ g3 g1 g2
    exact this
  | exit i => exact hk
  | ret => exact hk

theorem Wp.reg {id : Nat} {ops : Array Oper} {r' : Regs} {S' : St} (h : opsT (cx.at f) (den cx E) ops ops.toList r S = some (r', S')) (hk : K .normal r' S') : Wp cx E f (.region id ops false) r S K := .region h hk
theorem Wp.regA {id : Nat} {ops : Array Oper} {r' : Regs} {S' : St} (h : opsT (cx.at f) (den cx E) ops ops.toList r S = some (r', S')) (ha : apartT r' ops (cx.lt f id) = true) (hk : K .normal r' S') : Wp cx E f (.region id ops true) r S K := .any h ha hk
end

/-- Where a function ends: its results are x. -/
def endK (cx : Cx) (fn : Func) (x : AV) (σ1 : List (List AV)) : Ex → Regs → St → Prop := fun e r S => (match e with | .exit _ => False | _ => True) ∧ ∃ vs, resultsT cx r S fn.results.toList = some vs ∧ (∀ g, mapLoc g (pack vs) = x) ∧ ∃ junk, S.σ = σ1 ++ junk

theorem endK_r {cx : Cx} {fn : Func} {x : AV} {σ1 : List (List AV)} {r : Regs} {S : St} {vs : List AV} (h1 : resultsT cx r S fn.results.toList = some vs) (h2 : ∀ g, mapLoc g (pack vs) = x) (h3 : ∃ junk, S.σ = σ1 ++ junk) : endK cx fn x σ1 .ret r S := ⟨trivial, vs, h1, h2, h3⟩
theorem endK_n {cx : Cx} {fn : Func} {x : AV} {σ1 : List (List AV)} {r : Regs} {S : St} {vs : List AV} (h1 : resultsT cx r S fn.results.toList = some vs) (h2 : ∀ g, mapLoc g (pack vs) = x) (h3 : ∃ junk, S.σ = σ1 ++ junk) : endK cx fn x σ1 .normal r S := ⟨trivial, vs, h1, h2, h3⟩

/-- A function, walked: σ1 are the blocks handed by reference, as they come back. -/
theorem den_w {cx : Cx} {E : Oracle} {f : Nat} {fn : Func} {c : Code} {args : List AV} {σ σ1 : List (List AV)} {x : AV} (hx : cx.ext f = false) (hm : cx.mkf f = false) (hf : cx.P.funcs[f]? = some fn) (hc : fn.body = some c) (hn : (fn.name == "runtime.NumGoroutine") = false)
    (hl : σ1.length = σ.length) (hd : ∀ c ∈ σ1, c ≠ [] ∧ c.map dd = c)
    (h : Wp cx E f c (args ++ List.replicate (fn.ntmps - args.length) (.tup [])) ⟨σ, []⟩ (endK cx fn x σ1)) : den cx E f args σ = some (x, σ1) := by
  refine den_walk hx hm hf hc hn (h.mono fun e r S hk => ?_)
  obtain ⟨h1, vs, h2, h3, junk, h4⟩ := hk
  refine ⟨h1, vs, h2, ?_, ?_⟩
  · rw [h4, ← hl, List.take_left]
    simp only [Bool.or_eq_false_iff, List.any_eq_false, decide_eq_false_iff_not, List.length_append]
    refine ⟨fun c hc' => ?_, by omega⟩
    have := (hd c hc').1
    simpa using this
  · obtain ⟨g, hg⟩ := fz_is S.σ σ.length S.σ.length
    rw [hg, h3 g, h4, ← hl, List.take_left]
    have : σ1.map (·.map dd) = σ1 := by
      conv => rhs; rw [← List.map_id σ1]
      exact List.map_congr_left fun c hc' => (hd c hc').2
    rw [this]

theorem den_w0 {cx : Cx} {E : Oracle} {f : Nat} {fn : Func} {c : Code} {args : List AV} {x : AV} (hx : cx.ext f = false) (hm : cx.mkf f = false) (hf : cx.P.funcs[f]? = some fn) (hc : fn.body = some c) (hn : (fn.name == "runtime.NumGoroutine") = false)
    (h : Wp cx E f c (args ++ List.replicate (fn.ntmps - args.length) (.tup [])) ⟨[], []⟩ (endK cx fn x [])) : den cx E f args [] = some (x, []) := den_w hx hm hf hc hn rfl (by simp) h

/-- One element more may be appended. -/
def Can (tk : List Nat) (es : List (List AV)) : Own → Prop
  | .full => True
  | .tok n v => tk[n]? = some v ∧ es ≠ []
  | .dead => False

theorem can_app {tk : List Nat} {es : List (List AV)} {o : Own} (h : Can tk es o) (sz : Nat) (hs : 0 < sz) (hz : ∀ c ∈ es, c.length = sz) (hroom : es.length ≤ 10000000000) :
    ∃ o' tk', (∀ te σ x, te.size = sz → 0 < te.bytes → te.bytes ≤ 1024 → x.length = sz → appendE te ⟨σ, tk⟩ es o [x] = some (.sl (es ++ [x]) o', ⟨σ, tk'⟩)) ∧ ∀ x, Can tk' (es ++ [x]) o' := by
  have key : ∀ (te : TI) (x : List AV), te.size = sz → 0 < te.bytes → te.bytes ≤ 1024 → x.length = sz → (es.length + [x].length) * te.bytes ≤ 70368744177664 ∧ 0 < te.bytes ∧ 0 < te.size ∧ (es ++ [x]).all (fun c => c.length == te.size) = true := fun te x h1 h2 h3 h4 => by
    refine ⟨?_, h2, by omega, ?_⟩
    · refine Nat.le_trans (Nat.mul_le_mul_left _ h3) ?_
      simp only [List.length_cons, List.length_nil]
      omega
    · simp only [List.all_append, Bool.and_eq_true, List.all_eq_true, beq_iff_eq]
      exact ⟨fun c hc => by rw [hz c hc, h1], by simp [h1, h4]⟩
  cases o with
  | full =>
    refine ⟨.tok tk.length 0, tk ++ [0], fun te σ x h1 h2 h3 h4 => ?_, fun x => by simp [Can]⟩
    unfold appendE
    rw [if_neg (by simp), if_pos (key te x h1 h2 h3 h4)]
  | tok n v =>
    obtain ⟨h1, h2⟩ := h
    have h3 : es.isEmpty = false := by simpa using h2
    have hlt : n < tk.length := (List.getElem?_eq_some_iff.1 h1).1
    refine ⟨.tok n (v + 1), tk.set n (v + 1), fun te σ x g1 g2 g3 g4 => ?_, fun x => by simp [Can, hlt]⟩
    unfold appendE
    rw [if_neg (by simp), if_pos (key te x g1 g2 g3 g4)]
    simp only [h1, h3, true_and, if_true]
  | dead => exact h.elim
theorem can_apps {tk : List Nat} {es : List (List AV)} {o : Own} (h : Can tk es o) (xs : List (List AV)) (sz : Nat) (hs : 0 < sz) (hz : ∀ c ∈ es, c.length = sz) (hx : ∀ c ∈ xs, c.length = sz) (hroom : es.length + xs.length ≤ 10000000000) :
    ∃ o' tk', (∀ te σ, te.size = sz → 0 < te.bytes → te.bytes ≤ 1024 → appendE te ⟨σ, tk⟩ es o xs = some (.sl (es ++ xs) o', ⟨σ, tk'⟩)) ∧ Can tk' (es ++ xs) o' := by
  by_cases hn : xs = []
  · subst hn
    exact ⟨o, tk, fun te σ _ _ _ => by unfold appendE; rw [if_pos rfl]; simp, by simpa using h⟩
  have key : ∀ (te : TI), te.size = sz → 0 < te.bytes → te.bytes ≤ 1024 → (es.length + xs.length) * te.bytes ≤ 70368744177664 ∧ 0 < te.bytes ∧ 0 < te.size ∧ (es ++ xs).all (fun c => c.length == te.size) = true := fun te h1 h2 h3 => by
    refine ⟨?_, h2, by omega, ?_⟩
    · refine Nat.le_trans (Nat.mul_le_mul_left _ h3) ?_
      omega
    · simp only [List.all_append, Bool.and_eq_true, List.all_eq_true, beq_iff_eq]
      exact ⟨fun c hc => by rw [hz c hc, h1], fun c hc => by rw [hx c hc, h1]⟩
  cases o with
  | full =>
    refine ⟨.tok tk.length 0, tk ++ [0], fun te σ h1 h2 h3 => ?_, by simp [Can, hn]⟩
    unfold appendE
    rw [if_neg hn, if_pos (key te h1 h2 h3)]
  | tok n v =>
    obtain ⟨h1, h2⟩ := h
    have h3 : es.isEmpty = false := by simpa using h2
    have hlt : n < tk.length := (List.getElem?_eq_some_iff.1 h1).1
    refine ⟨.tok n (v + 1), tk.set n (v + 1), fun te σ g1 g2 g3 => ?_, by simp [Can, hlt, hn]⟩
    unfold appendE
    rw [if_neg hn, if_pos (key te g1 g2 g3)]
    simp only [h1, h3, true_and, if_true]
  | dead => exact h.elim
end M
end Go.Proofs.YthclcchnodjjpaaGreatDoor
/- RAW DATA as values of T: types, terms, plain values, lists of numbers. The cells of a node are written out one level deep. -/
set_option linter.unusedVariables false
set_option linter.unusedSimpArgs false
namespace Go.Proofs.YthclcchnodjjpaaGreatDoor
namespace M

/-- The cell of a number, as an element. -/
def ic (n : Int) : List AV := [.int .i64 n]
@[simp] theorem ic_eq (n : Int) : ic n = [.int .i64 n] := rfl
@[simp] theorem ic_clean (g : Nat → Nat → AV) : List.map (mapLoc g) ∘ ic = ic := by funext n; simp
@[simp] theorem ic_dd : List.map dd ∘ ic = ic := ic_clean _
@[simp] theorem ic_len : (fun c : List AV => c.length == 1) ∘ ic = fun _ => true := by funext n; simp

inductive RT where
  | mk (k : Int) (as : List RT)
def RT.k : RT → Int | .mk k _ => k
def RT.as : RT → List RT | .mk _ as => as
@[simp] theorem RT.k_mk (k : Int) (as : List RT) : (RT.mk k as).k = k := rfl
@[simp] theorem RT.as_mk (k : Int) (as : List RT) : (RT.mk k as).as = as := rfl
@[simp] theorem RT.eta (t : RT) : RT.mk t.k t.as = t := by cases t; rfl
mutual
def RT.cells : RT → List AV
  | .mk k as => [.int .i64 k, .sl (RT.cellss as) .dead]
def RT.cellss : List RT → List (List AV)
  | [] => []
  | a :: l => a.cells :: RT.cellss l
end
theorem RT.cellss_eq : ∀ l : List RT, RT.cellss l = l.map RT.cells
  | [] => rfl
  | a :: l => by simp only [RT.cellss, List.map_cons, RT.cellss_eq l]
@[simp] theorem RT.cells_eq (t : RT) : t.cells = [.int .i64 t.k, .sl (t.as.map RT.cells) .dead] := by cases t; simp only [RT.cells, RT.cellss_eq, RT.k_mk, RT.as_mk]
def RT.enc (t : RT) : AV := .agg t.cells
@[simp] theorem RT.enc_eq (t : RT) : t.enc = .agg [.int .i64 t.k, .sl (t.as.map RT.cells) .dead] := by rw [RT.enc, RT.cells_eq]

mutual
theorem RT.ind_aux {p : RT → Prop} (h : ∀ k as, (∀ a ∈ as, p a) → p (.mk k as)) : ∀ t, p t
  | .mk k as => h k as (RT.ind_list h as)
theorem RT.ind_list {p : RT → Prop} (h : ∀ k as, (∀ a ∈ as, p a) → p (.mk k as)) : ∀ l : List RT, ∀ a ∈ l, p a
  | [], a, ha => by simp at ha
  | b :: l, a, ha => by
    rcases List.mem_cons.1 ha with e | ha
    · rw [e]; exact RT.ind_aux h b
    · exact RT.ind_list h l a ha
end
theorem RT.ind {p : RT → Prop} (t : RT) (h : ∀ k as, (∀ a ∈ as, p a) → p (.mk k as)) : p t := RT.ind_aux h t

theorem RT.cells_clean (g : Nat → Nat → AV) (t : RT) : List.map (mapLoc g) t.cells = t.cells := by
  induction t using RT.ind with | h k as ih =>
  rw [RT.cells_eq]
  simp only [RT.k_mk, RT.as_mk, List.map_cons, List.map_nil, mapLoc_int, mapLoc_sl, List.map_map]
  rw [List.map_congr_left (f := List.map (mapLoc g) ∘ RT.cells) (g := RT.cells) fun a ha => ih a ha]
@[simp] theorem RT.clean (g : Nat → Nat → AV) : List.map (mapLoc g) ∘ RT.cells = RT.cells := by funext t; exact RT.cells_clean g t
@[simp] theorem RT.clean' {α : Type} (g : Nat → Nat → AV) (f : α → RT) : List.map (mapLoc g) ∘ (RT.cells ∘ f) = RT.cells ∘ f := by funext x; exact RT.cells_clean g (f x)
@[simp] theorem RT.cells_dd : List.map dd ∘ RT.cells = RT.cells := RT.clean _
@[simp] theorem RT.cells_dd' {α : Type} (f : α → RT) : List.map dd ∘ (RT.cells ∘ f) = RT.cells ∘ f := RT.clean' _ f
@[simp] theorem RT.cells_len' {α : Type} (f : α → RT) : (fun c : List AV => c.length == 2) ∘ (RT.cells ∘ f) = fun _ => true := by funext x; simp
@[simp] theorem RT.cells_len : (fun c : List AV => c.length == 2) ∘ RT.cells = fun _ => true := by funext t; simp

mutual
def RT.nodes : RT → Nat
  | .mk k l => 1 + RT.nodess l
def RT.nodess : List RT → Nat
  | [] => 0
  | a :: l => a.nodes + RT.nodess l
end
theorem RT.nodes_mk (k : Int) (l : List RT) : (RT.mk k l).nodes = 1 + (l.map RT.nodes).sum := by
  have : ∀ l, RT.nodess l = (l.map RT.nodes).sum := fun l => by induction l with | nil => rfl | cons a l ih => simp [RT.nodess, ih]
  simp only [RT.nodes, this]
theorem sum_mem {α : Type} (f : α → Nat) : ∀ {l : List α} {a : α}, a ∈ l → f a ≤ (l.map f).sum
  | b :: l, a, h => by
    simp only [List.map_cons, List.sum_cons]
    rcases List.mem_cons.1 h with rfl | h
    · omega
    · have := sum_mem f h; omega
theorem sum_len {α : Type} (f : α → Nat) (h : ∀ a, 0 < f a) : ∀ l : List α, l.length ≤ (l.map f).sum
  | [] => by simp
  | a :: l => by have := sum_len f h l; have := h a; simp only [List.map_cons, List.sum_cons, List.length_cons]; omega
theorem RT.nodes_pos (t : RT) : 0 < t.nodes := by cases t; rw [RT.nodes_mk]; omega
theorem RT.nodes_mem {k : Int} {l : List RT} {a : RT} (h : a ∈ l) : a.nodes < (RT.mk k l).nodes := by have := sum_mem RT.nodes h; rw [RT.nodes_mk]; omega
theorem RT.nodes_len (k : Int) (l : List RT) : l.length < (RT.mk k l).nodes := by have := sum_len RT.nodes RT.nodes_pos l; rw [RT.nodes_mk]; omega

/-! ### Terms -/
inductive RM where
  | mk (k i : Int) (ty : RT) (as : List RM)
def RM.k : RM → Int | .mk k _ _ _ => k
def RM.i : RM → Int | .mk _ i _ _ => i
def RM.ty : RM → RT | .mk _ _ t _ => t
def RM.as : RM → List RM | .mk _ _ _ as => as
@[simp] theorem RM.k_mk (k i : Int) (t : RT) (as : List RM) : (RM.mk k i t as).k = k := rfl
@[simp] theorem RM.i_mk (k i : Int) (t : RT) (as : List RM) : (RM.mk k i t as).i = i := rfl
@[simp] theorem RM.ty_mk (k i : Int) (t : RT) (as : List RM) : (RM.mk k i t as).ty = t := rfl
@[simp] theorem RM.as_mk (k i : Int) (t : RT) (as : List RM) : (RM.mk k i t as).as = as := rfl
@[simp] theorem RM.eta (t : RM) : RM.mk t.k t.i t.ty t.as = t := by cases t; rfl
mutual
def RM.cells : RM → List AV
  | .mk k i t as => [.int .i64 k, .int .i64 i, .int .i64 t.k, .sl (t.as.map RT.cells) .dead, .sl (RM.cellss as) .dead]
def RM.cellss : List RM → List (List AV)
  | [] => []
  | a :: l => a.cells :: RM.cellss l
end
theorem RM.cellss_eq : ∀ l : List RM, RM.cellss l = l.map RM.cells
  | [] => rfl
  | a :: l => by simp only [RM.cellss, List.map_cons, RM.cellss_eq l]
@[simp] theorem RM.cells_eq (t : RM) : t.cells = [.int .i64 t.k, .int .i64 t.i, .int .i64 t.ty.k, .sl (t.ty.as.map RT.cells) .dead, .sl (t.as.map RM.cells) .dead] := by
  cases t; simp only [RM.cells, RM.cellss_eq, RM.k_mk, RM.i_mk, RM.ty_mk, RM.as_mk]
def RM.enc (t : RM) : AV := .agg t.cells
@[simp] theorem RM.enc_eq (t : RM) : t.enc = .agg [.int .i64 t.k, .int .i64 t.i, .int .i64 t.ty.k, .sl (t.ty.as.map RT.cells) .dead, .sl (t.as.map RM.cells) .dead] := by rw [RM.enc, RM.cells_eq]
mutual
theorem RM.ind_aux {p : RM → Prop} (h : ∀ k i t as, (∀ a ∈ as, p a) → p (.mk k i t as)) : ∀ t, p t
  | .mk k i t as => h k i t as (RM.ind_list h as)
theorem RM.ind_list {p : RM → Prop} (h : ∀ k i t as, (∀ a ∈ as, p a) → p (.mk k i t as)) : ∀ l : List RM, ∀ a ∈ l, p a
  | [], a, ha => by simp at ha
  | b :: l, a, ha => by
    rcases List.mem_cons.1 ha with e | ha
    · rw [e]; exact RM.ind_aux h b
    · exact RM.ind_list h l a ha
end
theorem RM.ind {p : RM → Prop} (t : RM) (h : ∀ k i t as, (∀ a ∈ as, p a) → p (.mk k i t as)) : p t := RM.ind_aux h t
theorem RM.cells_clean (g : Nat → Nat → AV) (t : RM) : List.map (mapLoc g) t.cells = t.cells := by
  induction t using RM.ind with | h k i t as ih =>
  rw [RM.cells_eq]
  simp only [RM.k_mk, RM.i_mk, RM.ty_mk, RM.as_mk, List.map_cons, List.map_nil, mapLoc_int, mapLoc_sl, List.map_map, RT.clean]
  rw [List.map_congr_left (f := List.map (mapLoc g) ∘ RM.cells) (g := RM.cells) fun a ha => ih a ha]
@[simp] theorem RM.clean (g : Nat → Nat → AV) : List.map (mapLoc g) ∘ RM.cells = RM.cells := by funext t; exact RM.cells_clean g t
@[simp] theorem RM.clean' {α : Type} (g : Nat → Nat → AV) (f : α → RM) : List.map (mapLoc g) ∘ (RM.cells ∘ f) = RM.cells ∘ f := by funext x; exact RM.cells_clean g (f x)
@[simp] theorem RM.cells_dd : List.map dd ∘ RM.cells = RM.cells := RM.clean _
@[simp] theorem RM.cells_dd' {α : Type} (f : α → RM) : List.map dd ∘ (RM.cells ∘ f) = RM.cells ∘ f := RM.clean' _ f
@[simp] theorem RM.cells_len' {α : Type} (f : α → RM) : (fun c : List AV => c.length == 5) ∘ (RM.cells ∘ f) = fun _ => true := by funext x; simp
@[simp] theorem RM.cells_len : (fun c : List AV => c.length == 5) ∘ RM.cells = fun _ => true := by funext t; simp
mutual
def RM.nodes : RM → Nat
  | .mk _ _ t l => 1 + t.nodes + RM.nodess l
def RM.nodess : List RM → Nat
  | [] => 0
  | a :: l => a.nodes + RM.nodess l
end
theorem RM.nodes_mk (k i : Int) (t : RT) (l : List RM) : (RM.mk k i t l).nodes = 1 + t.nodes + (l.map RM.nodes).sum := by
  have : ∀ l, RM.nodess l = (l.map RM.nodes).sum := fun l => by induction l with | nil => rfl | cons a l ih => simp [RM.nodess, ih]
  simp only [RM.nodes, this]
theorem RM.nodes_pos (t : RM) : 0 < t.nodes := by cases t; rw [RM.nodes_mk]; omega
theorem RM.nodes_mem {k i : Int} {t : RT} {l : List RM} {a : RM} (h : a ∈ l) : a.nodes < (RM.mk k i t l).nodes := by have := sum_mem RM.nodes h; rw [RM.nodes_mk]; omega
theorem RM.nodes_ty (k i : Int) (t : RT) (l : List RM) : t.nodes < (RM.mk k i t l).nodes := by rw [RM.nodes_mk]; omega
theorem RM.nodes_len (k i : Int) (t : RT) (l : List RM) : l.length < (RM.mk k i t l).nodes := by have := sum_len RM.nodes RM.nodes_pos l; rw [RM.nodes_mk]; omega

/-! ### Plain values -/
inductive RV where
  | mk (k n : Int) (l : List Int) (as : List RV)
def RV.k : RV → Int | .mk k _ _ _ => k
def RV.n : RV → Int | .mk _ n _ _ => n
def RV.l : RV → List Int | .mk _ _ l _ => l
def RV.as : RV → List RV | .mk _ _ _ as => as
@[simp] theorem RV.k_mk (k n : Int) (l : List Int) (as : List RV) : (RV.mk k n l as).k = k := rfl
@[simp] theorem RV.n_mk (k n : Int) (l : List Int) (as : List RV) : (RV.mk k n l as).n = n := rfl
@[simp] theorem RV.l_mk (k n : Int) (l : List Int) (as : List RV) : (RV.mk k n l as).l = l := rfl
@[simp] theorem RV.as_mk (k n : Int) (l : List Int) (as : List RV) : (RV.mk k n l as).as = as := rfl
@[simp] theorem RV.eta (t : RV) : RV.mk t.k t.n t.l t.as = t := by cases t; rfl
mutual
def RV.cells : RV → List AV
  | .mk k n l as => [.int .i64 k, .int .i64 n, .sl (l.map ic) .dead, .sl (RV.cellss as) .dead]
def RV.cellss : List RV → List (List AV)
  | [] => []
  | a :: l => a.cells :: RV.cellss l
end
theorem RV.cellss_eq : ∀ l : List RV, RV.cellss l = l.map RV.cells
  | [] => rfl
  | a :: l => by simp only [RV.cellss, List.map_cons, RV.cellss_eq l]
@[simp] theorem RV.cells_eq (t : RV) : t.cells = [.int .i64 t.k, .int .i64 t.n, .sl (t.l.map ic) .dead, .sl (t.as.map RV.cells) .dead] := by
  cases t; simp only [RV.cells, RV.cellss_eq, RV.k_mk, RV.n_mk, RV.l_mk, RV.as_mk]
def RV.enc (t : RV) : AV := .agg t.cells
@[simp] theorem RV.enc_eq (t : RV) : t.enc = .agg [.int .i64 t.k, .int .i64 t.n, .sl (t.l.map ic) .dead, .sl (t.as.map RV.cells) .dead] := by rw [RV.enc, RV.cells_eq]
mutual
theorem RV.ind_aux {p : RV → Prop} (h : ∀ k n l as, (∀ a ∈ as, p a) → p (.mk k n l as)) : ∀ t, p t
  | .mk k n l as => h k n l as (RV.ind_list h as)
theorem RV.ind_list {p : RV → Prop} (h : ∀ k n l as, (∀ a ∈ as, p a) → p (.mk k n l as)) : ∀ l : List RV, ∀ a ∈ l, p a
  | [], a, ha => by simp at ha
  | b :: l, a, ha => by
    rcases List.mem_cons.1 ha with e | ha
    · rw [e]; exact RV.ind_aux h b
    · exact RV.ind_list h l a ha
end
theorem RV.ind {p : RV → Prop} (t : RV) (h : ∀ k n l as, (∀ a ∈ as, p a) → p (.mk k n l as)) : p t := RV.ind_aux h t
theorem RV.cells_clean (g : Nat → Nat → AV) (t : RV) : List.map (mapLoc g) t.cells = t.cells := by
  induction t using RV.ind with | h k n l as ih =>
  rw [RV.cells_eq]
  simp only [RV.k_mk, RV.n_mk, RV.l_mk, RV.as_mk, List.map_cons, List.map_nil, mapLoc_int, mapLoc_sl, List.map_map, ic_clean]
  rw [List.map_congr_left (f := List.map (mapLoc g) ∘ RV.cells) (g := RV.cells) fun a ha => ih a ha]
@[simp] theorem RV.clean (g : Nat → Nat → AV) : List.map (mapLoc g) ∘ RV.cells = RV.cells := by funext t; exact RV.cells_clean g t
@[simp] theorem RV.clean' {α : Type} (g : Nat → Nat → AV) (f : α → RV) : List.map (mapLoc g) ∘ (RV.cells ∘ f) = RV.cells ∘ f := by funext x; exact RV.cells_clean g (f x)
@[simp] theorem RV.cells_dd : List.map dd ∘ RV.cells = RV.cells := RV.clean _
@[simp] theorem RV.cells_dd' {α : Type} (f : α → RV) : List.map dd ∘ (RV.cells ∘ f) = RV.cells ∘ f := RV.clean' _ f
@[simp] theorem RV.cells_len' {α : Type} (f : α → RV) : (fun c : List AV => c.length == 4) ∘ (RV.cells ∘ f) = fun _ => true := by funext x; simp
@[simp] theorem RV.cells_len : (fun c : List AV => c.length == 4) ∘ RV.cells = fun _ => true := by funext t; simp

/-! ### Plain: what may be handed over as it is -/
@[simp] theorem dd_eq (v : AV) : dd v = mapLoc (fun _ _ => .undef) v := rfl
@[simp] theorem plain_int (k : IntKind) (n : Int) : Plain (.int k n) := ⟨rfl, fun _ _ h => (by cases h), fun _ _ h => (by cases h)⟩
@[simp] theorem plain_bool (b : Bool) : Plain (.bool b) := ⟨rfl, fun _ _ h => (by cases h), fun _ _ h => (by cases h)⟩
@[simp] theorem plain_agg (cs : List AV) : Plain (.agg cs) ↔ cs.map dd = cs := by
  constructor
  · rintro ⟨h, _, _⟩
    have := h
    simp only [dd_eq, mapLoc_agg, AV.agg.injEq] at this
    exact this
  · intro h
    refine ⟨?_, fun _ _ h => (by cases h), fun _ _ h => (by cases h)⟩
    simp only [dd_eq, mapLoc_agg, AV.agg.injEq]
    exact h
@[simp] theorem plain_sl (es : List (List AV)) (o : Own) : Plain (.sl es o) ↔ es.map (List.map dd) = es ∧ o = .dead := by
  have e : dd (.sl es o) = .sl (es.map (List.map dd)) .dead := mapLoc_sl _ _ _
  constructor
  · rintro ⟨h, _, _⟩
    rw [e] at h
    injection h with h1 h2
    exact ⟨h1, h2.symm⟩
  · rintro ⟨h, rfl⟩
    exact ⟨by rw [e, h], fun _ _ h => (by cases h), fun _ _ h => (by cases h)⟩
end M
end Go.Proofs.YthclcchnodjjpaaGreatDoor
/- RAW AND TYPED: what the checks say of raw types; types as raw ones. -/
set_option linter.unusedVariables false
set_option linter.unusedSimpArgs false
namespace Go.Proofs.YthclcchnodjjpaaGreatDoor
namespace M
open T (Ty Tm)

mutual
def RT.ok : RT → Bool
  | .mk k l => (decide ((k = 1 ∨ k = 2 ∨ k = 5) ∧ l.length = 0) || decide ((k = 3 ∨ k = 4) ∧ l.length = 2)) && RT.oks l
def RT.oks : List RT → Bool
  | [] => true
  | a :: l => a.ok && RT.oks l
end
theorem RT.ok_mk (k : Int) (l : List RT) : (RT.mk k l).ok = ((decide ((k = 1 ∨ k = 2 ∨ k = 5) ∧ l.length = 0) || decide ((k = 3 ∨ k = 4) ∧ l.length = 2)) && l.all RT.ok) := by
  have : ∀ l, RT.oks l = l.all RT.ok := fun l => by induction l with | nil => rfl | cons a l ih => simp [RT.oks, ih]
  rw [RT.ok, this]
/-- The number of a type's arguments, of a right kind. -/
def RT.want (k : Int) : Nat := if k = 3 ∨ k = 4 then 2 else 0
theorem RT.ok_bad {k : Int} {l : List RT} (h : ¬ (k = 1 ∨ k = 2 ∨ k = 5 ∨ k = 3 ∨ k = 4)) : (RT.mk k l).ok = false := by
  rw [RT.ok_mk]
  simp only [not_or] at h
  simp [h]
theorem RT.ok_len {k : Int} {l : List RT} (h : k = 1 ∨ k = 2 ∨ k = 5 ∨ k = 3 ∨ k = 4) (hl : l.length ≠ RT.want k) : (RT.mk k l).ok = false := by
  rw [RT.ok_mk]
  rcases h with rfl | rfl | rfl | rfl | rfl <;> simp_all [RT.want]
theorem RT.ok_all {k : Int} {l : List RT} (h : k = 1 ∨ k = 2 ∨ k = 5 ∨ k = 3 ∨ k = 4) (hl : l.length = RT.want k) : (RT.mk k l).ok = l.all RT.ok := by
  rw [RT.ok_mk]
  rcases h with rfl | rfl | rfl | rfl | rfl <;> simp_all [RT.want]
def RT.err (t : RT) : Int := if t.ok then (if t.nodes ≤ 64 then 0 else 4) else 2
theorem RT.err_ok {t : RT} (h : t.err = 0) : t.ok = true ∧ t.nodes ≤ 64 := by
  unfold RT.err at h
  split at h
  · split at h
    · exact ⟨by assumption, by assumption⟩
    · omega
  · omega
end M

namespace T
open M
def Ty.raw : Ty → RT
  | .nat => .mk 1 []
  | .list => .mk 2 []
  | .unit => .mk 5 []
  | .pair a b => .mk 3 [a.raw, b.raw]
  | .fn a b => .mk 4 [a.raw, b.raw]
def Ty.level : Ty → Nat
  | .nat | .list | .unit => 0
  | .pair a b => max a.level b.level
  | .fn a b => max (a.level + 1) b.level
theorem Ty.raw_ok (s : Ty) : s.raw.ok = true := by
  induction s <;> simp_all [Ty.raw, RT.ok_mk]
theorem Ty.raw_nodes (s : Ty) : s.raw.nodes = s.size := by
  induction s <;> simp_all [Ty.raw, RT.nodes_mk, Ty.size] <;> omega
theorem Ty.raw_inj : ∀ {s u : Ty}, s.raw = u.raw → s = u := by
  intro s
  induction s with
  | pair a b ih1 ih2 => intro u h; cases u <;> simp [Ty.raw] at h; rw [ih1 h.1, ih2 h.2]
  | fn a b ih1 ih2 => intro u h; cases u <;> simp [Ty.raw] at h; rw [ih1 h.1, ih2 h.2]
  | _ => intro u h; cases u <;> simp [Ty.raw] at h; rfl
theorem Ty.of_ok (t : RT) : t.ok = true → ∃ s : Ty, t = s.raw := by
  induction t using RT.ind with | h k l ih =>
  intro h
  rw [RT.ok_mk] at h
  simp only [Bool.and_eq_true, Bool.or_eq_true, decide_eq_true_eq, List.all_eq_true] at h
  obtain ⟨h1 | h1, h2⟩ := h
  · obtain ⟨hk, hl⟩ := h1
    have : l = [] := List.eq_nil_of_length_eq_zero hl
    subst this
    rcases hk with rfl | rfl | rfl
    · exact ⟨.nat, rfl⟩
    · exact ⟨.list, rfl⟩
    · exact ⟨.unit, rfl⟩
  · obtain ⟨hk, hl⟩ := h1
    obtain ⟨a, b, rfl⟩ : ∃ a b, l = [a, b] := by
      match l, hl with
      | [a, b], _ => exact ⟨a, b, rfl⟩
    obtain ⟨s, rfl⟩ := ih a (by simp) (h2 a (by simp))
    obtain ⟨u, rfl⟩ := ih b (by simp) (h2 b (by simp))
    rcases hk with rfl | rfl
    · exact ⟨.pair s u, rfl⟩
    · exact ⟨.fn s u, rfl⟩
theorem Ty.raw_err (s : Ty) (h : s.size ≤ 64) : s.raw.err = 0 := by simp [RT.err, s.raw_ok, s.raw_nodes, h]
theorem Ty.level_size (s : Ty) : s.level < s.size := by induction s <;> simp only [Ty.level, Ty.size] <;> omega
end T
end Go.Proofs.YthclcchnodjjpaaGreatDoor
/- RAW TERMS AND TYPED ONES: what the checks say. -/
set_option linter.unusedVariables false
set_option linter.unusedSimpArgs false
namespace Go.Proofs.YthclcchnodjjpaaGreatDoor
namespace M
open T (Ty Tm)
@[simp] theorem len_eq0 {α : Type} (l : List α) [Decidable (l = [])] : (((l.length : Nat) : Int) == 0) = decide (l = []) := by
  cases l with
  | nil => simp
  | cons a l =>
    simp
    omega
/-- The number of a term's arguments, by its kind. -/
def RM.arity (k : Int) : Int := if k = 1 ∨ k = 4 ∨ k = 7 ∨ k = 13 then 0 else if k = 2 ∨ k = 5 ∨ k = 11 ∨ k = 12 then 1 else if k = 3 ∨ k = 8 ∨ k = 10 then 2 else if k = 6 ∨ k = 9 then 3 else -1
def RM.tyOk (k : Int) (t : RT) : Bool := if k = 2 ∨ k = 6 ∨ k = 9 then decide (t.err = 0) else decide (t.k = 0 ∧ t.as.length = 0)
mutual
def RM.ok : RM → Bool
  | .mk k i t l => decide ((l.length : Int) = RM.arity k) && decide (0 ≤ i) && decide (k = 1 ∨ i = 0) && RM.tyOk k t && RM.oks l
def RM.oks : List RM → Bool
  | [] => true
  | a :: l => a.ok && RM.oks l
end
theorem RM.ok_mk (k i : Int) (t : RT) (l : List RM) : (RM.mk k i t l).ok = (decide ((l.length : Int) = RM.arity k) && decide (0 ≤ i) && decide (k = 1 ∨ i = 0) && RM.tyOk k t && l.all RM.ok) := by
  have : ∀ l, RM.oks l = l.all RM.ok := fun l => by induction l with | nil => rfl | cons a l ih => simp [RM.oks, ih]
  rw [RM.ok, this]
mutual
/-- The nodes of a term, without those of its types. -/
def RM.count : RM → Nat
  | .mk _ _ _ l => 1 + RM.counts l
def RM.counts : List RM → Nat
  | [] => 0
  | a :: l => a.count + RM.counts l
end
theorem RM.count_mk (k i : Int) (t : RT) (l : List RM) : (RM.mk k i t l).count = 1 + (l.map RM.count).sum := by
  have : ∀ l, RM.counts l = (l.map RM.count).sum := fun l => by induction l with | nil => rfl | cons a l ih => simp [RM.counts, ih]
  rw [RM.count, this]
theorem sum_le {α : Type} (f g : α → Nat) : ∀ {l : List α}, (∀ a ∈ l, f a ≤ g a) → (l.map f).sum ≤ (l.map g).sum
  | [], _ => by simp
  | a :: l, h => by
    simp only [List.map_cons, List.sum_cons]
    have := h a (by simp)
    have := sum_le f g (l := l) (fun b hb => h b (by simp [hb]))
    omega
theorem RM.count_le (t : RM) : t.count ≤ t.nodes := by
  induction t using RM.ind with | h k i t l ih =>
  rw [RM.count_mk, RM.nodes_mk]
  have := sum_le RM.count RM.nodes ih
  omega
def RM.err (t : RM) : Int := if t.ok then (if t.count ≤ 4096 then 0 else 4) else 2
end M

namespace T
open M
/-- No type. -/
def noTy : RT := .mk 0 []
def Tm.raw : Tm → RM
  | .var i => .mk 1 i noTy []
  | .lam s b => .mk 2 0 s.raw [b.raw]
  | .app f a => .mk 3 0 noTy [f.raw, a.raw]
  | .zero => .mk 4 0 noTy []
  | .succ a => .mk 5 0 noTy [a.raw]
  | .recn s b f n => .mk 6 0 s.raw [b.raw, f.raw, n.raw]
  | .nil => .mk 7 0 noTy []
  | .cons h l => .mk 8 0 noTy [h.raw, l.raw]
  | .fold s b f l => .mk 9 0 s.raw [b.raw, f.raw, l.raw]
  | .pair a b => .mk 10 0 noTy [a.raw, b.raw]
  | .fst p => .mk 11 0 noTy [p.raw]
  | .snd p => .mk 12 0 noTy [p.raw]
  | .unit => .mk 13 0 noTy []
/-- All types that a term names are small. -/
def Tm.small : Tm → Bool
  | .lam s b => decide (s.size ≤ 64) && b.small
  | .app f a => f.small && a.small
  | .succ a => a.small
  | .recn s b f n => decide (s.size ≤ 64) && b.small && f.small && n.small
  | .cons h l => h.small && l.small
  | .fold s b f l => decide (s.size ≤ 64) && b.small && f.small && l.small
  | .pair a b => a.small && b.small
  | .fst p => p.small
  | .snd p => p.small
  | _ => true
theorem Ty.raw_err_iff (s : Ty) : s.raw.err = 0 ↔ s.size ≤ 64 := by
  simp only [RT.err, s.raw_ok, s.raw_nodes, if_true]
  split <;> simp_all
theorem Tm.raw_count (t : Tm) : t.raw.count = t.size := by
  induction t <;> simp_all [Tm.raw, RM.count_mk, Tm.size] <;> omega
theorem Tm.raw_ok (t : Tm) : t.raw.ok = t.small := by
  induction t <;> simp_all [Tm.raw, RM.ok_mk, Tm.small, RM.arity, RM.tyOk, noTy, Ty.raw_err_iff, Bool.and_assoc]
theorem Tm.raw_nodes (t : Tm) : t.small = true → t.raw.nodes ≤ 66 * t.size := by
  have hn : noTy.nodes = 1 := by simp [noTy, RT.nodes_mk]
  induction t with
  | lam s b ih =>
    intro h
    simp only [Tm.small, Bool.and_eq_true, decide_eq_true_eq] at h
    have := ih h.2
    simp only [Tm.raw, RM.nodes_mk, Tm.size, Ty.raw_nodes, List.map_cons, List.map_nil, List.sum_cons, List.sum_nil]
    omega
  | recn s b f n ih1 ih2 ih3 =>
    intro h
    simp only [Tm.small, Bool.and_eq_true, decide_eq_true_eq] at h
    have := ih1 h.1.1.2
    have := ih2 h.1.2
    have := ih3 h.2
    simp only [Tm.raw, RM.nodes_mk, Tm.size, Ty.raw_nodes, List.map_cons, List.map_nil, List.sum_cons, List.sum_nil]
    omega
  | fold s b f n ih1 ih2 ih3 =>
    intro h
    simp only [Tm.small, Bool.and_eq_true, decide_eq_true_eq] at h
    have := ih1 h.1.1.2
    have := ih2 h.1.2
    have := ih3 h.2
    simp only [Tm.raw, RM.nodes_mk, Tm.size, Ty.raw_nodes, List.map_cons, List.map_nil, List.sum_cons, List.sum_nil]
    omega
  | app a b ih1 ih2 =>
    intro h
    simp only [Tm.small, Bool.and_eq_true] at h
    have := ih1 h.1
    have := ih2 h.2
    simp only [Tm.raw, RM.nodes_mk, Tm.size, hn, List.map_cons, List.map_nil, List.sum_cons, List.sum_nil]
    omega
  | cons a b ih1 ih2 =>
    intro h
    simp only [Tm.small, Bool.and_eq_true] at h
    have := ih1 h.1
    have := ih2 h.2
    simp only [Tm.raw, RM.nodes_mk, Tm.size, hn, List.map_cons, List.map_nil, List.sum_cons, List.sum_nil]
    omega
  | pair a b ih1 ih2 =>
    intro h
    simp only [Tm.small, Bool.and_eq_true] at h
    have := ih1 h.1
    have := ih2 h.2
    simp only [Tm.raw, RM.nodes_mk, Tm.size, hn, List.map_cons, List.map_nil, List.sum_cons, List.sum_nil]
    omega
  | succ a ih =>
    intro h
    have := ih h
    simp only [Tm.raw, RM.nodes_mk, Tm.size, hn, List.map_cons, List.map_nil, List.sum_cons, List.sum_nil]
    omega
  | fst a ih =>
    intro h
    have := ih h
    simp only [Tm.raw, RM.nodes_mk, Tm.size, hn, List.map_cons, List.map_nil, List.sum_cons, List.sum_nil]
    omega
  | snd a ih =>
    intro h
    have := ih h
    simp only [Tm.raw, RM.nodes_mk, Tm.size, hn, List.map_cons, List.map_nil, List.sum_cons, List.sum_nil]
    omega
  | _ => intro h; simp [Tm.raw, RM.nodes_mk, Tm.size, hn]
theorem Tm.raw_err (t : Tm) (h : t.small = true) : t.raw.err = if t.size ≤ 4096 then 0 else 4 := by
  simp [RM.err, t.raw_ok, h, t.raw_count]
end T
end Go.Proofs.YthclcchnodjjpaaGreatDoor
/- RAW TERMS: indices, lifting. -/
set_option linter.unusedVariables false
set_option linter.unusedSimpArgs false
namespace Go.Proofs.YthclcchnodjjpaaGreatDoor
namespace M
open T (Ty Tm)
mutual
/-- All indices lie from 0 to b. -/
def RM.idx (b : Int) : RM → Bool
  | .mk _ i _ l => decide (0 ≤ i ∧ i ≤ b) && RM.idxs b l
def RM.idxs (b : Int) : List RM → Bool
  | [] => true
  | a :: l => a.idx b && RM.idxs b l
end
theorem RM.idx_mk (b k i : Int) (t : RT) (l : List RM) : (RM.mk k i t l).idx b = (decide (0 ≤ i ∧ i ≤ b) && l.all (RM.idx b)) := by
  have : ∀ l, RM.idxs b l = l.all (RM.idx b) := fun l => by induction l with | nil => rfl | cons a l ih => simp [RM.idxs, ih]
  rw [RM.idx, this]
theorem RM.idx_mono {b c : Int} (h : b ≤ c) (t : RM) : t.idx b = true → t.idx c = true := by
  induction t using RM.ind with | h k i t l ih =>
  rw [RM.idx_mk, RM.idx_mk]
  simp only [Bool.and_eq_true, decide_eq_true_eq, List.all_eq_true]
  exact fun ⟨h1, h2⟩ => ⟨by omega, fun a ha => ih a ha (h2 a ha)⟩
mutual
/-- No index is greater than b. -/
def RM.near (b : Int) : RM → Bool
  | .mk _ i _ l => decide (i ≤ b) && RM.nears b l
def RM.nears (b : Int) : List RM → Bool
  | [] => true
  | a :: l => a.near b && RM.nears b l
end
theorem RM.near_mk (b k i : Int) (t : RT) (l : List RM) : (RM.mk k i t l).near b = (decide (i ≤ b) && l.all (RM.near b)) := by
  have : ∀ l, RM.nears b l = l.all (RM.near b) := fun l => by induction l with | nil => rfl | cons a l ih => simp [RM.nears, ih]
  rw [RM.near, this]
theorem RM.near_of_idx {b : Int} (t : RM) : t.idx b = true → t.near b = true := by
  induction t using RM.ind with | h k i t l ih =>
  rw [RM.idx_mk, RM.near_mk]
  simp only [Bool.and_eq_true, decide_eq_true_eq, List.all_eq_true]
  exact fun ⟨h1, h2⟩ => ⟨by omega, fun a ha => ih a ha (h2 a ha)⟩
mutual
/-- Free variables from some one on, greater. -/
def RM.lift (by' : Int) : RM → Int → RM
  | .mk k i t l, c => if k = 1 then .mk k (if c ≤ i then i + by' else i) t l else .mk k i t (RM.lifts by' l (if k = 2 then c + 1 else c))
def RM.lifts (by' : Int) : List RM → Int → List RM
  | [], _ => []
  | a :: l, c => a.lift by' c :: RM.lifts by' l c
end
theorem RM.lift_mk (n k i c : Int) (t : RT) (l : List RM) : (RM.mk k i t l).lift n c = if k = 1 then .mk k (if c ≤ i then i + n else i) t l else .mk k i t (l.map fun a => a.lift n (if k = 2 then c + 1 else c)) := by
  have : ∀ l c, RM.lifts n l c = l.map fun a => a.lift n c := fun l c => by induction l with | nil => rfl | cons a l ih => simp [RM.lifts, ih]
  rw [RM.lift, this]
theorem RM.lift_zero (t : RM) : ∀ c, t.lift 0 c = t := by
  induction t using RM.ind with | h k i t l ih =>
  intro c
  rw [RM.lift_mk]
  split
  · simp
  · congr 1
    conv => rhs; rw [← List.map_id l]
    exact List.map_congr_left fun a ha => ih a ha _
theorem RM.lift_count (n : Int) (t : RM) : ∀ c, (t.lift n c).count = t.count := by
  induction t using RM.ind with | h k i t l ih =>
  intro c
  rw [RM.lift_mk]
  split
  · simp only [RM.count_mk]
  · simp only [RM.count_mk, List.map_map]
    congr 2
    exact List.map_congr_left fun a ha => ih a ha _
theorem RM.lift_nodes (n : Int) (t : RM) : ∀ c, (t.lift n c).nodes = t.nodes := by
  induction t using RM.ind with | h k i t l ih =>
  intro c
  rw [RM.lift_mk]
  split
  · simp only [RM.nodes_mk]
  · simp only [RM.nodes_mk, List.map_map]
    congr 2
    exact List.map_congr_left fun a ha => ih a ha _
end M
namespace T
open M
theorem Tm.raw_lift (n : Nat) (t : Tm) : ∀ c : Nat, (t.lift n c).raw = t.raw.lift n c := by
  induction t with
  | var i =>
    intro c
    by_cases h : c ≤ i <;> simp [Tm.lift, Tm.raw, RM.lift_mk, h]
  | lam s b ih => intro c; have := ih (c + 1); simp [Tm.lift, Tm.raw, RM.lift_mk, this]
  | _ => intro c; simp_all [Tm.lift, Tm.raw, RM.lift_mk]
/-- All variables below some number. -/
def Tm.idx (b : Nat) : Tm → Bool
  | .var i => decide (i ≤ b)
  | .lam _ t => t.idx b
  | .app f a => f.idx b && a.idx b
  | .succ a => a.idx b
  | .recn _ x f n => x.idx b && f.idx b && n.idx b
  | .cons h l => h.idx b && l.idx b
  | .fold _ x f l => x.idx b && f.idx b && l.idx b
  | .pair x y => x.idx b && y.idx b
  | .fst p => p.idx b
  | .snd p => p.idx b
  | _ => true
theorem Tm.raw_idx (b : Nat) (t : Tm) : t.raw.idx b = t.idx b := by
  have hb : (0 : Int) ≤ b := by omega
  induction t <;> simp_all [Tm.raw, RM.idx_mk, Tm.idx, Bool.and_assoc]
theorem Tm.idx_mono {b c : Nat} (h : b ≤ c) (t : Tm) : t.idx b = true → t.idx c = true := by
  induction t <;> simp_all [Tm.idx] <;> omega
theorem Tm.idx_lift (b n : Nat) (t : Tm) : ∀ c, t.idx b = true → (t.lift n c).idx (b + n) = true := by
  induction t with
  | var i => intro c h; simp only [Tm.lift]; simp only [Tm.idx, decide_eq_true_eq] at h; split <;> simp [Tm.idx] <;> omega
  | _ => intro c h; simp_all [Tm.lift, Tm.idx]
theorem Tm.small_lift (n : Nat) (t : Tm) : ∀ c, (t.lift n c).small = t.small := by
  induction t with
  | var i => intro c; simp only [Tm.lift]; split <;> rfl
  | _ => intro c; simp_all [Tm.lift, Tm.small]
end T
end Go.Proofs.YthclcchnodjjpaaGreatDoor
