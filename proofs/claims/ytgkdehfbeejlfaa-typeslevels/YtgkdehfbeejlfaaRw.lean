/- RAW DATA as values of T: types, terms, plain values, lists of numbers. The cells of a node are written out one level deep. -/
import Derived.Test.YtgkdehfbeejlfaaWk
set_option linter.unusedVariables false
set_option linter.unusedSimpArgs false
namespace Go.Proofs.Ytgkdehfbeejlfaa
namespace M

/-- The cell of a number, as an element. -/
def ic (n : Int) : List AV := [.int .i64 n]
@[simp] theorem ic_eq (n : Int) : ic n = [.int .i64 n] := rfl
@[simp] theorem ic_clean (g : Nat → Nat → AV) : List.map (mapLoc g) ∘ ic = ic := by funext n; simp
@[simp] theorem ic_dd : List.map dd ∘ ic = ic := ic_clean _
@[simp] theorem ic_len : (fun c : List AV => c.length == 1) ∘ ic = fun _ => true := by funext n; simp

inductive RT where
  | mk (k : Int) (as : List RT)
def RT.k : RT → Int | .mk k _ => k
def RT.as : RT → List RT | .mk _ as => as
@[simp] theorem RT.k_mk (k : Int) (as : List RT) : (RT.mk k as).k = k := rfl
@[simp] theorem RT.as_mk (k : Int) (as : List RT) : (RT.mk k as).as = as := rfl
@[simp] theorem RT.eta (t : RT) : RT.mk t.k t.as = t := by cases t; rfl
mutual
def RT.cells : RT → List AV
  | .mk k as => [.int .i64 k, .sl (RT.cellss as) .dead]
def RT.cellss : List RT → List (List AV)
  | [] => []
  | a :: l => a.cells :: RT.cellss l
end
theorem RT.cellss_eq : ∀ l : List RT, RT.cellss l = l.map RT.cells
  | [] => rfl
  | a :: l => by simp only [RT.cellss, List.map_cons, RT.cellss_eq l]
@[simp] theorem RT.cells_eq (t : RT) : t.cells = [.int .i64 t.k, .sl (t.as.map RT.cells) .dead] := by cases t; simp only [RT.cells, RT.cellss_eq, RT.k_mk, RT.as_mk]
def RT.enc (t : RT) : AV := .agg t.cells
@[simp] theorem RT.enc_eq (t : RT) : t.enc = .agg [.int .i64 t.k, .sl (t.as.map RT.cells) .dead] := by rw [RT.enc, RT.cells_eq]

mutual
theorem RT.ind_aux {p : RT → Prop} (h : ∀ k as, (∀ a ∈ as, p a) → p (.mk k as)) : ∀ t, p t
  | .mk k as => h k as (RT.ind_list h as)
theorem RT.ind_list {p : RT → Prop} (h : ∀ k as, (∀ a ∈ as, p a) → p (.mk k as)) : ∀ l : List RT, ∀ a ∈ l, p a
  | [], a, ha => by simp at ha
  | b :: l, a, ha => by
    rcases List.mem_cons.1 ha with e | ha
    · rw [e]; exact RT.ind_aux h b
    · exact RT.ind_list h l a ha
end
theorem RT.ind {p : RT → Prop} (t : RT) (h : ∀ k as, (∀ a ∈ as, p a) → p (.mk k as)) : p t := RT.ind_aux h t

theorem RT.cells_clean (g : Nat → Nat → AV) (t : RT) : List.map (mapLoc g) t.cells = t.cells := by
  induction t using RT.ind with | h k as ih =>
  rw [RT.cells_eq]
  simp only [RT.k_mk, RT.as_mk, List.map_cons, List.map_nil, mapLoc_int, mapLoc_sl, List.map_map]
  rw [List.map_congr_left (f := List.map (mapLoc g) ∘ RT.cells) (g := RT.cells) fun a ha => ih a ha]
@[simp] theorem RT.clean (g : Nat → Nat → AV) : List.map (mapLoc g) ∘ RT.cells = RT.cells := by funext t; exact RT.cells_clean g t
@[simp] theorem RT.cells_dd : List.map dd ∘ RT.cells = RT.cells := RT.clean _
@[simp] theorem RT.cells_len : (fun c : List AV => c.length == 2) ∘ RT.cells = fun _ => true := by funext t; simp

mutual
def RT.nodes : RT → Nat
  | .mk k l => 1 + RT.nodess l
def RT.nodess : List RT → Nat
  | [] => 0
  | a :: l => a.nodes + RT.nodess l
end
theorem RT.nodes_mk (k : Int) (l : List RT) : (RT.mk k l).nodes = 1 + (l.map RT.nodes).sum := by
  have : ∀ l, RT.nodess l = (l.map RT.nodes).sum := fun l => by induction l with | nil => rfl | cons a l ih => simp [RT.nodess, ih]
  simp only [RT.nodes, this]
theorem sum_mem {α : Type} (f : α → Nat) : ∀ {l : List α} {a : α}, a ∈ l → f a ≤ (l.map f).sum
  | b :: l, a, h => by
    simp only [List.map_cons, List.sum_cons]
    rcases List.mem_cons.1 h with rfl | h
    · omega
    · have := sum_mem f h; omega
theorem sum_len {α : Type} (f : α → Nat) (h : ∀ a, 0 < f a) : ∀ l : List α, l.length ≤ (l.map f).sum
  | [] => by simp
  | a :: l => by have := sum_len f h l; have := h a; simp only [List.map_cons, List.sum_cons, List.length_cons]; omega
theorem RT.nodes_pos (t : RT) : 0 < t.nodes := by cases t; rw [RT.nodes_mk]; omega
theorem RT.nodes_mem {k : Int} {l : List RT} {a : RT} (h : a ∈ l) : a.nodes < (RT.mk k l).nodes := by have := sum_mem RT.nodes h; rw [RT.nodes_mk]; omega
theorem RT.nodes_len (k : Int) (l : List RT) : l.length < (RT.mk k l).nodes := by have := sum_len RT.nodes RT.nodes_pos l; rw [RT.nodes_mk]; omega

/-! ### Terms -/
inductive RM where
  | mk (k i : Int) (ty : RT) (as : List RM)
def RM.k : RM → Int | .mk k _ _ _ => k
def RM.i : RM → Int | .mk _ i _ _ => i
def RM.ty : RM → RT | .mk _ _ t _ => t
def RM.as : RM → List RM | .mk _ _ _ as => as
@[simp] theorem RM.k_mk (k i : Int) (t : RT) (as : List RM) : (RM.mk k i t as).k = k := rfl
@[simp] theorem RM.i_mk (k i : Int) (t : RT) (as : List RM) : (RM.mk k i t as).i = i := rfl
@[simp] theorem RM.ty_mk (k i : Int) (t : RT) (as : List RM) : (RM.mk k i t as).ty = t := rfl
@[simp] theorem RM.as_mk (k i : Int) (t : RT) (as : List RM) : (RM.mk k i t as).as = as := rfl
@[simp] theorem RM.eta (t : RM) : RM.mk t.k t.i t.ty t.as = t := by cases t; rfl
mutual
def RM.cells : RM → List AV
  | .mk k i t as => [.int .i64 k, .int .i64 i, .int .i64 t.k, .sl (t.as.map RT.cells) .dead, .sl (RM.cellss as) .dead]
def RM.cellss : List RM → List (List AV)
  | [] => []
  | a :: l => a.cells :: RM.cellss l
end
theorem RM.cellss_eq : ∀ l : List RM, RM.cellss l = l.map RM.cells
  | [] => rfl
  | a :: l => by simp only [RM.cellss, List.map_cons, RM.cellss_eq l]
@[simp] theorem RM.cells_eq (t : RM) : t.cells = [.int .i64 t.k, .int .i64 t.i, .int .i64 t.ty.k, .sl (t.ty.as.map RT.cells) .dead, .sl (t.as.map RM.cells) .dead] := by
  cases t; simp only [RM.cells, RM.cellss_eq, RM.k_mk, RM.i_mk, RM.ty_mk, RM.as_mk]
def RM.enc (t : RM) : AV := .agg t.cells
@[simp] theorem RM.enc_eq (t : RM) : t.enc = .agg [.int .i64 t.k, .int .i64 t.i, .int .i64 t.ty.k, .sl (t.ty.as.map RT.cells) .dead, .sl (t.as.map RM.cells) .dead] := by rw [RM.enc, RM.cells_eq]
mutual
theorem RM.ind_aux {p : RM → Prop} (h : ∀ k i t as, (∀ a ∈ as, p a) → p (.mk k i t as)) : ∀ t, p t
  | .mk k i t as => h k i t as (RM.ind_list h as)
theorem RM.ind_list {p : RM → Prop} (h : ∀ k i t as, (∀ a ∈ as, p a) → p (.mk k i t as)) : ∀ l : List RM, ∀ a ∈ l, p a
  | [], a, ha => by simp at ha
  | b :: l, a, ha => by
    rcases List.mem_cons.1 ha with e | ha
    · rw [e]; exact RM.ind_aux h b
    · exact RM.ind_list h l a ha
end
theorem RM.ind {p : RM → Prop} (t : RM) (h : ∀ k i t as, (∀ a ∈ as, p a) → p (.mk k i t as)) : p t := RM.ind_aux h t
theorem RM.cells_clean (g : Nat → Nat → AV) (t : RM) : List.map (mapLoc g) t.cells = t.cells := by
  induction t using RM.ind with | h k i t as ih =>
  rw [RM.cells_eq]
  simp only [RM.k_mk, RM.i_mk, RM.ty_mk, RM.as_mk, List.map_cons, List.map_nil, mapLoc_int, mapLoc_sl, List.map_map, RT.clean]
  rw [List.map_congr_left (f := List.map (mapLoc g) ∘ RM.cells) (g := RM.cells) fun a ha => ih a ha]
@[simp] theorem RM.clean (g : Nat → Nat → AV) : List.map (mapLoc g) ∘ RM.cells = RM.cells := by funext t; exact RM.cells_clean g t
@[simp] theorem RM.cells_dd : List.map dd ∘ RM.cells = RM.cells := RM.clean _
@[simp] theorem RM.cells_len : (fun c : List AV => c.length == 5) ∘ RM.cells = fun _ => true := by funext t; simp
mutual
def RM.nodes : RM → Nat
  | .mk _ _ t l => 1 + t.nodes + RM.nodess l
def RM.nodess : List RM → Nat
  | [] => 0
  | a :: l => a.nodes + RM.nodess l
end
theorem RM.nodes_mk (k i : Int) (t : RT) (l : List RM) : (RM.mk k i t l).nodes = 1 + t.nodes + (l.map RM.nodes).sum := by
  have : ∀ l, RM.nodess l = (l.map RM.nodes).sum := fun l => by induction l with | nil => rfl | cons a l ih => simp [RM.nodess, ih]
  simp only [RM.nodes, this]
theorem RM.nodes_pos (t : RM) : 0 < t.nodes := by cases t; rw [RM.nodes_mk]; omega
theorem RM.nodes_mem {k i : Int} {t : RT} {l : List RM} {a : RM} (h : a ∈ l) : a.nodes < (RM.mk k i t l).nodes := by have := sum_mem RM.nodes h; rw [RM.nodes_mk]; omega
theorem RM.nodes_ty (k i : Int) (t : RT) (l : List RM) : t.nodes < (RM.mk k i t l).nodes := by rw [RM.nodes_mk]; omega
theorem RM.nodes_len (k i : Int) (t : RT) (l : List RM) : l.length < (RM.mk k i t l).nodes := by have := sum_len RM.nodes RM.nodes_pos l; rw [RM.nodes_mk]; omega

/-! ### Plain values -/
inductive RV where
  | mk (k n : Int) (l : List Int) (as : List RV)
def RV.k : RV → Int | .mk k _ _ _ => k
def RV.n : RV → Int | .mk _ n _ _ => n
def RV.l : RV → List Int | .mk _ _ l _ => l
def RV.as : RV → List RV | .mk _ _ _ as => as
@[simp] theorem RV.k_mk (k n : Int) (l : List Int) (as : List RV) : (RV.mk k n l as).k = k := rfl
@[simp] theorem RV.n_mk (k n : Int) (l : List Int) (as : List RV) : (RV.mk k n l as).n = n := rfl
@[simp] theorem RV.l_mk (k n : Int) (l : List Int) (as : List RV) : (RV.mk k n l as).l = l := rfl
@[simp] theorem RV.as_mk (k n : Int) (l : List Int) (as : List RV) : (RV.mk k n l as).as = as := rfl
@[simp] theorem RV.eta (t : RV) : RV.mk t.k t.n t.l t.as = t := by cases t; rfl
mutual
def RV.cells : RV → List AV
  | .mk k n l as => [.int .i64 k, .int .i64 n, .sl (l.map ic) .dead, .sl (RV.cellss as) .dead]
def RV.cellss : List RV → List (List AV)
  | [] => []
  | a :: l => a.cells :: RV.cellss l
end
theorem RV.cellss_eq : ∀ l : List RV, RV.cellss l = l.map RV.cells
  | [] => rfl
  | a :: l => by simp only [RV.cellss, List.map_cons, RV.cellss_eq l]
@[simp] theorem RV.cells_eq (t : RV) : t.cells = [.int .i64 t.k, .int .i64 t.n, .sl (t.l.map ic) .dead, .sl (t.as.map RV.cells) .dead] := by
  cases t; simp only [RV.cells, RV.cellss_eq, RV.k_mk, RV.n_mk, RV.l_mk, RV.as_mk]
def RV.enc (t : RV) : AV := .agg t.cells
@[simp] theorem RV.enc_eq (t : RV) : t.enc = .agg [.int .i64 t.k, .int .i64 t.n, .sl (t.l.map ic) .dead, .sl (t.as.map RV.cells) .dead] := by rw [RV.enc, RV.cells_eq]
mutual
theorem RV.ind_aux {p : RV → Prop} (h : ∀ k n l as, (∀ a ∈ as, p a) → p (.mk k n l as)) : ∀ t, p t
  | .mk k n l as => h k n l as (RV.ind_list h as)
theorem RV.ind_list {p : RV → Prop} (h : ∀ k n l as, (∀ a ∈ as, p a) → p (.mk k n l as)) : ∀ l : List RV, ∀ a ∈ l, p a
  | [], a, ha => by simp at ha
  | b :: l, a, ha => by
    rcases List.mem_cons.1 ha with e | ha
    · rw [e]; exact RV.ind_aux h b
    · exact RV.ind_list h l a ha
end
theorem RV.ind {p : RV → Prop} (t : RV) (h : ∀ k n l as, (∀ a ∈ as, p a) → p (.mk k n l as)) : p t := RV.ind_aux h t
theorem RV.cells_clean (g : Nat → Nat → AV) (t : RV) : List.map (mapLoc g) t.cells = t.cells := by
  induction t using RV.ind with | h k n l as ih =>
  rw [RV.cells_eq]
  simp only [RV.k_mk, RV.n_mk, RV.l_mk, RV.as_mk, List.map_cons, List.map_nil, mapLoc_int, mapLoc_sl, List.map_map, ic_clean]
  rw [List.map_congr_left (f := List.map (mapLoc g) ∘ RV.cells) (g := RV.cells) fun a ha => ih a ha]
@[simp] theorem RV.clean (g : Nat → Nat → AV) : List.map (mapLoc g) ∘ RV.cells = RV.cells := by funext t; exact RV.cells_clean g t
@[simp] theorem RV.cells_dd : List.map dd ∘ RV.cells = RV.cells := RV.clean _
@[simp] theorem RV.cells_len : (fun c : List AV => c.length == 4) ∘ RV.cells = fun _ => true := by funext t; simp

/-! ### Plain: what may be handed over as it is -/
@[simp] theorem dd_eq (v : AV) : dd v = mapLoc (fun _ _ => .undef) v := rfl
@[simp] theorem plain_int (k : IntKind) (n : Int) : Plain (.int k n) := ⟨rfl, fun _ _ h => (by cases h), fun _ _ h => (by cases h)⟩
@[simp] theorem plain_bool (b : Bool) : Plain (.bool b) := ⟨rfl, fun _ _ h => (by cases h), fun _ _ h => (by cases h)⟩
@[simp] theorem plain_agg (cs : List AV) : Plain (.agg cs) ↔ cs.map dd = cs := by
  constructor
  · rintro ⟨h, _, _⟩
    have := h
    simp only [dd_eq, mapLoc_agg, AV.agg.injEq] at this
    exact this
  · intro h
    refine ⟨?_, fun _ _ h => (by cases h), fun _ _ h => (by cases h)⟩
    simp only [dd_eq, mapLoc_agg, AV.agg.injEq]
    exact h
@[simp] theorem plain_sl (es : List (List AV)) (o : Own) : Plain (.sl es o) ↔ es.map (List.map dd) = es ∧ o = .dead := by
  have e : dd (.sl es o) = .sl (es.map (List.map dd)) .dead := mapLoc_sl _ _ _
  constructor
  · rintro ⟨h, _, _⟩
    rw [e] at h
    injection h with h1 h2
    exact ⟨h1, h2.symm⟩
  · rintro ⟨h, rfl⟩
    exact ⟨by rw [e, h], fun _ _ h => (by cases h), fun _ _ h => (by cases h)⟩
end M
end Go.Proofs.Ytgkdehfbeejlfaa
