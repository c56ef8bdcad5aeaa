/- WALKING, the short way: registers and store as lists that are written out; one rule for each kind of code; loops that name what they change. -/
import Derived.Test.YtgkdehfbeejlfaaMc19
import Derived.Test.YtgkdehfbeejlfaaCalls1
set_option linter.unusedVariables false
set_option linter.unusedSimpArgs false
namespace Go.Proofs.Ytgkdehfbeejlfaa
namespace M

/-! ### The context at a function: only the loose pairs differ -/
@[simp] theorem at_ty (cx : Cx) (f : Nat) : (cx.at f).ty = cx.ty := rfl
@[simp] theorem at_P (cx : Cx) (f : Nat) : (cx.at f).P = cx.P := rfl
@[simp] theorem at_rf (cx : Cx) (f : Nat) : (cx.at f).rf = cx.rf := rfl
@[simp] theorem at_tt (cx : Cx) (f : Nat) : (cx.at f).tt = cx.tt := rfl
@[simp] theorem at_im (cx : Cx) (f : Nat) : (cx.at f).im = cx.im := rfl
@[simp] theorem at_mkf (cx : Cx) (f : Nat) : (cx.at f).mkf = cx.mkf := rfl
@[simp] theorem at_lt (cx : Cx) (f : Nat) : (cx.at f).lt = cx.lt := rfl

attribute [simp] opsT M.stepT wantedT opT ev_tmp ev_const ev_func rd_zero rd_succ rd_nil res_tmp res_cell evs evp putT absV absCells cells_agg cells_int cells_bool cells_sl cells_rp cells_nilp cells_iface cells_fn cells_loc cell_int cell_bool cell_sl cell_row cell_loc cell_rp cell_nilp cell_fn cell_nilf cell_iface cell_nili load_loc load_rp store_loc append_tok append_full sd_zero sd_succ sd_last td_zero td_succ td_last splice buildT fillT buildSliceT setElems fieldAddrT fieldOf mk TI.isAgg binT intOp asBoolT builtinT appendT intOf applyT mkOp resultsT fieldT isIface typeAssertT nilT AV.notNil isPtr sliceT optNat natOf pack AV.noPl

/-- An element, by its place. -/
def el {α : Type} (l : List α) (i : Nat) : Option α := l[i]?
@[simp] theorem el_map {α β : Type} (f : α → β) (l : List α) (i : Nat) : el (l.map f) i = (el l i).map f := by simp [el]
@[simp] theorem el_nil {α : Type} (i : Nat) : el ([] : List α) i = none := by simp [el]
@[simp] theorem el_zero {α : Type} (a : α) (l : List α) : el (a :: l) 0 = some a := by simp [el]
@[simp] theorem el_succ {α : Type} (a : α) (l : List α) (i : Nat) : el (a :: l) (i + 1) = el l i := by simp [el]
@[simp] theorem el_mid {α : Type} (l m : List α) (a : α) : el (l ++ a :: m) l.length = some a := by simp [el]
@[simp] theorem index_sl (cx : Cx) (t : Nat) (es : List (List AV)) (o : Own) (i : AV) : indexAddrT cx t (.sl es o) i = (cx.ty t).bind fun ti => match ti.kind with
  | .slice e => (cx.ty e).bind fun te => (intOf i).bind fun n => if 0 ≤ n then (el es n.toNat).bind fun c => if c.length = te.size ∧ 0 < te.size then some (.rp c) else none else none
  | .arr len e => (cx.ty e).bind fun te => (intOf i).bind fun n => none
  | _ => none := by
  unfold indexAddrT
  cases hti : cx.ty t with
  | none => rfl
  | some ti =>
    simp only [Option.bind_some]
    cases ti.kind <;> simp [el]
@[simp] theorem index_row (cx : Cx) (t b len : Nat) (i : AV) : indexAddrT cx t (.row b len) i = (cx.ty t).bind fun ti => match ti.kind with
  | .slice e => (cx.ty e).bind fun te => (intOf i).bind fun n => if 0 ≤ n then (if n.toNat < len then some (.loc b (n.toNat * te.size)) else none) else none
  | .arr len e => (cx.ty e).bind fun te => (intOf i).bind fun n => none
  | _ => none := by
  unfold indexAddrT
  cases hti : cx.ty t with
  | none => rfl
  | some ti =>
    simp only [Option.bind_some]
    cases ti.kind <;> simp
@[simp] theorem index_loc (cx : Cx) (t b off : Nat) (i : AV) : indexAddrT cx t (.loc b off) i = (cx.ty t).bind fun ti => match ti.kind with
  | .arr len e => (cx.ty e).bind fun te => (intOf i).bind fun n => if 0 ≤ n ∧ n < len then some (.loc b (off + n.toNat * te.size)) else none
  | .slice e => (cx.ty e).bind fun te => (intOf i).bind fun n => none
  | _ => none := by
  unfold indexAddrT
  cases hti : cx.ty t with
  | none => rfl
  | some ti =>
    simp only [Option.bind_some]
    cases ti.kind <;> simp
@[simp] theorem index_rp (cx : Cx) (t : Nat) (cs : List AV) (i : AV) : indexAddrT cx t (.rp cs) i = (cx.ty t).bind fun ti => match ti.kind with
  | .arr len e => (cx.ty e).bind fun te => (intOf i).bind fun n => if 0 ≤ n ∧ n < len then some (.rp (cs.drop (n.toNat * te.size))) else none
  | .slice e => (cx.ty e).bind fun te => (intOf i).bind fun n => none
  | _ => none := by
  unfold indexAddrT
  cases hti : cx.ty t with
  | none => rfl
  | some ti =>
    simp only [Option.bind_some]
    cases ti.kind <;> simp
@[simp] theorem sd_app_at (σ τ : List (List AV)) (n : Nat) : sd (σ ++ τ) (σ.length + n) = sd τ n := by
  simp only [sd]; rw [List.getElem?_append_right (by omega)]; congr 1; omega
@[simp] theorem sd_app_at0 (σ τ : List (List AV)) : sd (σ ++ τ) σ.length = sd τ 0 := sd_app_at σ τ 0
@[simp] theorem set_app_at {α : Type} (σ τ : List α) (n : Nat) (c : α) : (σ ++ τ).set (σ.length + n) c = σ ++ τ.set n c := by
  rw [List.set_append, if_neg (by omega)]; congr 2; omega
@[simp] theorem set_app_at0 {α : Type} (σ τ : List α) (c : α) : (σ ++ τ).set σ.length c = σ ++ τ.set 0 c := set_app_at σ τ 0 c

@[simp] theorem mapLoc_agg (g : Nat → Nat → AV) (cs : List AV) : mapLoc g (.agg cs) = .agg (cs.map (mapLoc g)) := by
  have : ∀ cs, mapLocs g cs = cs.map (mapLoc g) := fun cs => by induction cs with | nil => rfl | cons a l ih => simp [mapLocs, ih]
  simp [mapLoc, this]
@[simp] theorem mapLoc_tup (g : Nat → Nat → AV) (cs : List AV) : mapLoc g (.tup cs) = .tup (cs.map (mapLoc g)) := by
  have : ∀ cs, mapLocs g cs = cs.map (mapLoc g) := fun cs => by induction cs with | nil => rfl | cons a l ih => simp [mapLocs, ih]
  simp [mapLoc, this]
@[simp] theorem mapLoc_rp (g : Nat → Nat → AV) (cs : List AV) : mapLoc g (.rp cs) = .rp (cs.map (mapLoc g)) := by
  have : ∀ cs, mapLocs g cs = cs.map (mapLoc g) := fun cs => by induction cs with | nil => rfl | cons a l ih => simp [mapLocs, ih]
  simp [mapLoc, this]
@[simp] theorem mapLoc_sl (g : Nat → Nat → AV) (es : List (List AV)) (o : Own) : mapLoc g (.sl es o) = .sl (es.map (List.map (mapLoc g))) .dead := by
  have h1 : ∀ cs, mapLocs g cs = cs.map (mapLoc g) := fun cs => by induction cs with | nil => rfl | cons a l ih => simp [mapLocs, ih]
  have : ∀ es, mapLocss g es = es.map (List.map (mapLoc g)) := fun es => by induction es with | nil => rfl | cons a l ih => simp [mapLocss, ih, h1]
  simp [mapLoc, this]
@[simp] theorem mapLoc_int (g : Nat → Nat → AV) (k : IntKind) (n : Int) : mapLoc g (.int k n) = .int k n := rfl
@[simp] theorem mapLoc_bool (g : Nat → Nat → AV) (b : Bool) : mapLoc g (.bool b) = .bool b := rfl
@[simp] theorem mapLoc_nilp (g : Nat → Nat → AV) : mapLoc g .nilp = .nilp := rfl
@[simp] theorem mapLoc_nilf (g : Nat → Nat → AV) : mapLoc g .nilf = .nilf := rfl
@[simp] theorem mapLoc_nili (g : Nat → Nat → AV) : mapLoc g .nili = .nili := rfl
@[simp] theorem mapLoc_iface (g : Nat → Nat → AV) (t : Nat) (v : AV) : mapLoc g (.iface t v) = .iface t (mapLoc g v) := rfl

/-- A value without places: whatever becomes of places, it stays. -/
def Clean (v : AV) : Prop := ∀ g, mapLoc g v = v

theorem plain_of_clean {v : AV} (h : Clean v) (h1 : ∀ b o, v ≠ .loc b o) (h2 : ∀ f cs, v ≠ .fn f cs) : Plain v := ⟨h _, h1, h2⟩

section
variable {cx : Cx} {E : Oracle} {f : Nat} {K : Ex → Regs → St → Prop} {r : Regs} {S : St}

theorem Wp.condT {c : Operand} {a b : Code} (hc : ev r c = some (.bool true)) (h : Wp cx E f a r S K) : Wp cx E f (.cond c a b) r S K := .cond hc (by simpa using h)
theorem Wp.condF {c : Operand} {a b : Code} (hc : ev r c = some (.bool false)) (h : Wp cx E f b r S K) : Wp cx E f (.cond c a b) r S K := .cond hc (by simpa using h)

theorem thenK_n {next : Regs → St → Prop} (h : next r S) : thenK K next .normal r S := h
theorem thenK_r {next : Regs → St → Prop} (h : K .ret r S) : thenK K next .ret r S := h
theorem thenK_e {next : Regs → St → Prop} {i : Nat} (h : K (.exit i) r S) : thenK K next (.exit i) r S := h
theorem blockK_n {id : Nat} (h : K .normal r S) : blockK id K .normal r S := h
theorem blockK_r {id : Nat} (h : K .ret r S) : blockK id K .ret r S := h
theorem blockK_e {id : Nat} (h : K .normal r S) : blockK id K (.exit id) r S := by simpa [blockK] using h
theorem blockK_o {id i : Nat} (hn : i ≠ id) (h : K (.exit i) r S) : blockK id K (.exit i) r S := by simpa [blockK, hn] using h

/-- Some entries replaced. -/
def upds {α : Type} : List α → List Nat → List α → List α
  | r, w :: W, v :: vs => upds (r.set w v) W vs
  | r, _, _ => r
@[simp] theorem upds_nil {α : Type} (r : List α) (vs : List α) : upds r [] vs = r := by cases vs <;> rfl
@[simp] theorem upds_cons {α : Type} (r : List α) (w : Nat) (W : List Nat) (v : α) (vs : List α) : upds r (w :: W) (v :: vs) = upds (r.set w v) W vs := rfl

theorem upds_length {α : Type} : ∀ (W : List Nat) (vs r : List α), (upds r W vs).length = r.length
  | [], vs, r => by simp
  | w :: W, [], r => rfl
  | w :: W, v :: vs, r => by simp [upds_length W vs]

theorem upds_same {α : Type} (d : α) : ∀ (W : List Nat) (r : List α), (W.all (· < r.length)) = true → upds r W (W.map fun w => r.getD w d) = r
  | [], r, _ => by simp
  | w :: W, r, h => by
    simp only [List.all_cons, Bool.and_eq_true, decide_eq_true_eq] at h
    have e : r.set w (r.getD w d) = r := by
      apply List.ext_getElem?
      intro i
      by_cases hi : w = i
      · subst hi; simp [h.1]
      · simp [List.getElem?_set_ne hi]
    simp only [List.map_cons, upds_cons, e]
    exact upds_same d W r h.2

/-- A loop that changes the registers W and the blocks B (and makes more blocks): I speaks of what these hold. -/
theorem Wp.loopF {b : Code} (W B : List Nat) (I : Nat → (Nat → AV) → (Nat → List AV) → List Nat → Prop) (k : Nat) (hW : (W.all (· < r.length)) = true) (hB : (B.all (· < S.σ.length)) = true)
    (h0 : I k (rd r) (fun b => S.σ.getD b []) S.tk)
    (h : ∀ n w c junk tk r1 σ1, I n w c tk → r1 = upds r W (W.map w) → σ1 = upds S.σ B (B.map c) ++ junk → Wp cx E f b r1 ⟨σ1, tk⟩ (thenK K fun r' S' => r' = upds r W (W.map (rd r')) ∧ (∃ junk', S'.σ = upds S.σ B (B.map fun b => S'.σ.getD b []) ++ junk') ∧ ∃ n', n' < n ∧ I n' (rd r') (fun b => S'.σ.getD b []) S'.tk)) : Wp cx E f (.loop b) r S K := by
  refine .loop (fun n r' S' => ∃ w c junk tk, I n w c tk ∧ r' = upds r W (W.map w) ∧ S' = ⟨upds S.σ B (B.map c) ++ junk, tk⟩) k ?_ ?_
  · refine ⟨_, _, [], _, h0, ?_, ?_⟩
    · exact (upds_same _ W r hW).symm
    · rw [upds_same [] B S.σ hB]; simp
  · rintro n r' S' ⟨w, c, junk, tk, hI, rfl, rfl⟩
    refine (h n w c junk tk _ _ hI rfl rfl).mono fun e r1 S1 hk => ?_
    cases e with
    | normal =>
      obtain ⟨h1, ⟨junk', h2⟩, n', h3, h4⟩ := hk
      exact ⟨n', h3, _, _, junk', _, h4, h1, by rw [← h2]⟩
    | exit i => exact hk
    | ret => exact hk

/-- A part of the code that changes the registers W and the blocks B, whatever way it takes: behind it I is true. -/
theorem Wp.cutF {a : Code} {next : Regs → St → Prop} (W B : List Nat) (I : (Nat → AV) → (Nat → List AV) → List Nat → Prop) (hW : (W.all (· < r.length)) = true) (hB : (B.all (· < S.σ.length)) = true)
    (h1 : Wp cx E f a r S (thenK K fun r' S' => r' = upds r W (W.map (rd r')) ∧ (∃ junk', S'.σ = upds S.σ B (B.map fun b => S'.σ.getD b []) ++ junk') ∧ I (rd r') (fun b => S'.σ.getD b []) S'.tk))
    (h2 : ∀ w c junk tk r1 σ1, I w c tk → r1 = upds r W (W.map w) → σ1 = upds S.σ B (B.map c) ++ junk → next r1 ⟨σ1, tk⟩) : Wp cx E f a r S (thenK K next) := by
  refine h1.mono fun e r1 S1 hk => ?_
  cases e with
  | normal =>
    obtain ⟨g1, ⟨junk', g2⟩, g3⟩ := hk
    have := h2 _ _ junk' _ _ _ g3 g1 g2
    exact this
  | exit i => exact hk
  | ret => exact hk

theorem Wp.reg {id : Nat} {ops : Array Oper} {r' : Regs} {S' : St} (h : opsT (cx.at f) (den cx E) ops ops.toList r S = some (r', S')) (hk : K .normal r' S') : Wp cx E f (.region id ops false) r S K := .region h hk
theorem Wp.regA {id : Nat} {ops : Array Oper} {r' : Regs} {S' : St} (h : opsT (cx.at f) (den cx E) ops ops.toList r S = some (r', S')) (ha : apartT r' ops (cx.lt f id) = true) (hk : K .normal r' S') : Wp cx E f (.region id ops true) r S K := .any h ha hk
end

/-- Where a function ends: its results are x. -/
def endK (cx : Cx) (fn : Func) (x : AV) (σ1 : List (List AV)) : Ex → Regs → St → Prop := fun e r S => (match e with | .exit _ => False | _ => True) ∧ ∃ vs, resultsT cx r S fn.results.toList = some vs ∧ (∀ g, mapLoc g (pack vs) = x) ∧ ∃ junk, S.σ = σ1 ++ junk

theorem endK_r {cx : Cx} {fn : Func} {x : AV} {σ1 : List (List AV)} {r : Regs} {S : St} {vs : List AV} (h1 : resultsT cx r S fn.results.toList = some vs) (h2 : ∀ g, mapLoc g (pack vs) = x) (h3 : ∃ junk, S.σ = σ1 ++ junk) : endK cx fn x σ1 .ret r S := ⟨trivial, vs, h1, h2, h3⟩
theorem endK_n {cx : Cx} {fn : Func} {x : AV} {σ1 : List (List AV)} {r : Regs} {S : St} {vs : List AV} (h1 : resultsT cx r S fn.results.toList = some vs) (h2 : ∀ g, mapLoc g (pack vs) = x) (h3 : ∃ junk, S.σ = σ1 ++ junk) : endK cx fn x σ1 .normal r S := ⟨trivial, vs, h1, h2, h3⟩

/-- A function, walked: σ1 are the blocks handed by reference, as they come back. -/
theorem den_w {cx : Cx} {E : Oracle} {f : Nat} {fn : Func} {c : Code} {args : List AV} {σ σ1 : List (List AV)} {x : AV} (hx : cx.ext f = false) (hm : cx.mkf f = false) (hf : cx.P.funcs[f]? = some fn) (hc : fn.body = some c) (hn : (fn.name == "runtime.NumGoroutine") = false)
    (hl : σ1.length = σ.length) (hd : ∀ c ∈ σ1, c ≠ [] ∧ c.map dd = c)
    (h : Wp cx E f c (args ++ List.replicate (fn.ntmps - args.length) (.tup [])) ⟨σ, []⟩ (endK cx fn x σ1)) : den cx E f args σ = some (x, σ1) := by
  refine den_walk hx hm hf hc hn (h.mono fun e r S hk => ?_)
  obtain ⟨h1, vs, h2, h3, junk, h4⟩ := hk
  refine ⟨h1, vs, h2, ?_, ?_⟩
  · rw [h4, ← hl, List.take_left]
    simp only [Bool.or_eq_false_iff, List.any_eq_false, decide_eq_false_iff_not, List.length_append]
    refine ⟨fun c hc' => ?_, by omega⟩
    have := (hd c hc').1
    simpa using this
  · obtain ⟨g, hg⟩ := fz_is S.σ σ.length S.σ.length
    rw [hg, h3 g, h4, ← hl, List.take_left]
    have : σ1.map (·.map dd) = σ1 := by
      conv => rhs; rw [← List.map_id σ1]
      exact List.map_congr_left fun c hc' => (hd c hc').2
    rw [this]

theorem den_w0 {cx : Cx} {E : Oracle} {f : Nat} {fn : Func} {c : Code} {args : List AV} {x : AV} (hx : cx.ext f = false) (hm : cx.mkf f = false) (hf : cx.P.funcs[f]? = some fn) (hc : fn.body = some c) (hn : (fn.name == "runtime.NumGoroutine") = false)
    (h : Wp cx E f c (args ++ List.replicate (fn.ntmps - args.length) (.tup [])) ⟨[], []⟩ (endK cx fn x [])) : den cx E f args [] = some (x, []) := den_w hx hm hf hc hn rfl (by simp) h

/-- One element more may be appended. -/
def Can (tk : List Nat) (es : List (List AV)) : Own → Prop
  | .full => True
  | .tok n v => tk[n]? = some v ∧ es ≠ []
  | .dead => False

theorem can_app {tk : List Nat} {es : List (List AV)} {o : Own} (h : Can tk es o) (sz : Nat) (hs : 0 < sz) (hz : ∀ c ∈ es, c.length = sz) (hroom : es.length ≤ 10000000000) :
    ∃ o' tk', (∀ te σ x, te.size = sz → 0 < te.bytes → te.bytes ≤ 1024 → x.length = sz → appendE te ⟨σ, tk⟩ es o [x] = some (.sl (es ++ [x]) o', ⟨σ, tk'⟩)) ∧ ∀ x, Can tk' (es ++ [x]) o' := by
  have key : ∀ (te : TI) (x : List AV), te.size = sz → 0 < te.bytes → te.bytes ≤ 1024 → x.length = sz → (es.length + [x].length) * te.bytes ≤ 70368744177664 ∧ 0 < te.bytes ∧ 0 < te.size ∧ (es ++ [x]).all (fun c => c.length == te.size) = true := fun te x h1 h2 h3 h4 => by
    refine ⟨?_, h2, by omega, ?_⟩
    · refine Nat.le_trans (Nat.mul_le_mul_left _ h3) ?_
      simp only [List.length_cons, List.length_nil]
      omega
    · simp only [List.all_append, Bool.and_eq_true, List.all_eq_true, beq_iff_eq]
      exact ⟨fun c hc => by rw [hz c hc, h1], by simp [h1, h4]⟩
  cases o with
  | full =>
    refine ⟨.tok tk.length 0, tk ++ [0], fun te σ x h1 h2 h3 h4 => ?_, fun x => by simp [Can]⟩
    unfold appendE
    rw [if_neg (by simp), if_pos (key te x h1 h2 h3 h4)]
  | tok n v =>
    obtain ⟨h1, h2⟩ := h
    have h3 : es.isEmpty = false := by simpa using h2
    have hlt : n < tk.length := (List.getElem?_eq_some_iff.1 h1).1
    refine ⟨.tok n (v + 1), tk.set n (v + 1), fun te σ x g1 g2 g3 g4 => ?_, fun x => by simp [Can, hlt]⟩
    unfold appendE
    rw [if_neg (by simp), if_pos (key te x g1 g2 g3 g4)]
    simp only [h1, h3, true_and, if_true]
  | dead => exact h.elim
theorem can_apps {tk : List Nat} {es : List (List AV)} {o : Own} (h : Can tk es o) (xs : List (List AV)) (sz : Nat) (hs : 0 < sz) (hz : ∀ c ∈ es, c.length = sz) (hx : ∀ c ∈ xs, c.length = sz) (hroom : es.length + xs.length ≤ 10000000000) :
    ∃ o' tk', (∀ te σ, te.size = sz → 0 < te.bytes → te.bytes ≤ 1024 → appendE te ⟨σ, tk⟩ es o xs = some (.sl (es ++ xs) o', ⟨σ, tk'⟩)) ∧ Can tk' (es ++ xs) o' := by
  by_cases hn : xs = []
  · subst hn
    exact ⟨o, tk, fun te σ _ _ _ => by unfold appendE; rw [if_pos rfl]; simp, by simpa using h⟩
  have key : ∀ (te : TI), te.size = sz → 0 < te.bytes → te.bytes ≤ 1024 → (es.length + xs.length) * te.bytes ≤ 70368744177664 ∧ 0 < te.bytes ∧ 0 < te.size ∧ (es ++ xs).all (fun c => c.length == te.size) = true := fun te h1 h2 h3 => by
    refine ⟨?_, h2, by omega, ?_⟩
    · refine Nat.le_trans (Nat.mul_le_mul_left _ h3) ?_
      omega
    · simp only [List.all_append, Bool.and_eq_true, List.all_eq_true, beq_iff_eq]
      exact ⟨fun c hc => by rw [hz c hc, h1], fun c hc => by rw [hx c hc, h1]⟩
  cases o with
  | full =>
    refine ⟨.tok tk.length 0, tk ++ [0], fun te σ h1 h2 h3 => ?_, by simp [Can, hn]⟩
    unfold appendE
    rw [if_neg hn, if_pos (key te h1 h2 h3)]
  | tok n v =>
    obtain ⟨h1, h2⟩ := h
    have h3 : es.isEmpty = false := by simpa using h2
    have hlt : n < tk.length := (List.getElem?_eq_some_iff.1 h1).1
    refine ⟨.tok n (v + 1), tk.set n (v + 1), fun te σ g1 g2 g3 => ?_, by simp [Can, hlt, hn]⟩
    unfold appendE
    rw [if_neg hn, if_pos (key te g1 g2 g3)]
    simp only [h1, h3, true_and, if_true]
  | dead => exact h.elim
end M
end Go.Proofs.Ytgkdehfbeejlfaa
