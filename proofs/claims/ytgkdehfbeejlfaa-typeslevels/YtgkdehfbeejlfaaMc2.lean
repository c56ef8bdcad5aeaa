/- SOUNDNESS 1: what a value of T says of the machine's value in a world (VR), and that it stays true. -/
import Derived.Test.YtgkdehfbeejlfaaMc1
set_option linter.unusedVariables false
namespace Go.Proofs.Ytgkdehfbeejlfaa
namespace M

/-- The blocks of the store (none: given away); the tokens: version, block, cells in use; what others own: a block, from a place on. -/
structure Gh where
  loc : List (Option Nat)
  tok : List (Nat × Nat × Nat)
  out : List (Nat × Nat)

/-- A cell that nobody writes any more. -/
def Stab (G : Gh) (w : World) (a : Addr) : Prop := a.block < w.heap.size ∧ some a.block ∉ G.loc ∧ (∀ e ∈ G.tok, e.2.1 = a.block → a.off < e.2.2) ∧ ∀ e ∈ G.out, e.1 = a.block → a.off < e.2

/-- A cell that holds u, for good. -/
def Cell (G : Gh) (w : World) (a : Addr) (u : Value) : Prop := w.cell? a = some u ∧ Stab G w a ∧ u.oneCell' = true

/-- A block of so many cells lies there. -/
def Blk (w : World) (b n : Nat) : Prop := ∃ cs t, w.heap[b]? = some (.cells cs t (0, 0)) ∧ cs.size = n

/-- What is known of the room behind a slice of n elements of sz cells at A. -/
def OwnOk (G : Gh) (w : World) (A : Option Addr) (n sz cap : Nat) : Own → Prop
  | .dead => True
  | .full => cap = n
  | .tok i v => ∃ v' b k, G.tok[i]? = some (v', b, k) ∧ v ≤ v' ∧ (v' = v → A = some ⟨b, 0, none⟩ ∧ k = n * sz ∧ Blk w b (cap * sz))

inductive VR (G : Gh) (w : World) : AV → Value → Prop where
  | undef {v : Value} : VR G w .undef v
  | bool {b : Bool} : VR G w (.bool b) (.bool b)
  | int {k : IntKind} {n : Int} : VR G w (.int k n) (.int k n)
  | agg {cs : List AV} {vs : List Value} (hl : cs.length = vs.length) (h1 : ∀ i (h : i < cs.length) (h' : i < vs.length), vs[i].oneCell' = true) (h : ∀ i (h : i < cs.length) (h' : i < vs.length), VR G w cs[i] vs[i]) : VR G w (.agg cs) (.agg vs.toArray)
  | tup {cs : List AV} {vs : List Value} (hl : cs.length = vs.length) (h : ∀ i (h : i < cs.length) (h' : i < vs.length), VR G w cs[i] vs[i]) : VR G w (.tup cs) (.tuple vs.toArray)
  | sl {es : List (List AV)} {o : Own} {A : Option Addr} {cap sz : Nat} (u : Nat → Nat → Value) (hc : es.length ≤ cap) (hz : ∀ i (h : i < es.length), es[i].length = sz)
      (ha : ∀ i j, i < es.length → j < sz → ∃ a, A = some a ∧ Cell G w (a.add (i * sz + j)) (u i j)) (h : ∀ i (h : i < es.length) j (h' : j < es[i].length), VR G w es[i][j] (u i j))
      (ho : OwnOk G w A es.length sz cap o) : VR G w (.sl es o) (.slice A es.length cap)
  | row {b n : Nat} {a : Addr} {o : Option Nat} (h : G.loc[b]? = some o) (hv : ∀ blk, o = some blk → a = ⟨blk, 0, none⟩) : VR G w (.row b n) (.slice (some a) n n)
  | loc {b off : Nat} {a : Addr} {o : Option Nat} (h : G.loc[b]? = some o) (hv : ∀ blk, o = some blk → a = ⟨blk, off, none⟩) : VR G w (.loc b off) (.pointer (some a))
  | rp {cs : List AV} {a : Addr} (u : Nat → Value) (ha : ∀ j, j < cs.length → Cell G w (a.add j) (u j)) (h : ∀ j (h : j < cs.length), VR G w cs[j] (u j)) : VR G w (.rp cs) (.pointer (some a))
  | nilp : VR G w .nilp (.pointer none)
  | fn {f : Nat} {cs : List AV} {vs : List Value} (hl : cs.length = vs.length) (h : ∀ i (h : i < cs.length) (h' : i < vs.length), VR G w cs[i] vs[i]) : VR G w (.fn f cs) (.func (.func f) #[] vs.toArray)
  | nilf : VR G w .nilf .nilFunc
  | iface {t : Nat} {v : AV} {u : Value} (h : VR G w v u) : VR G w (.iface t v) (.iface t u)
  | nili : VR G w .nili .nilIface

/-- Lists of values. -/
def VRs (G : Gh) (w : World) (cs : List AV) (vs : List Value) : Prop := cs.length = vs.length ∧ ∀ i (h : i < cs.length) (h' : i < vs.length), VR G w cs[i] vs[i]

/-- What has come, with the ghost and the world before: old stable cells as they were, the store's blocks and the live tokens too. -/
structure Ge (G : Gh) (w : World) (G' : Gh) (w' : World) : Prop where
  cell : ∀ (a : Addr) (u : Value), w.cell? a = some u → Stab G w a → w'.cell? a = some u ∧ Stab G' w' a
  loc : ∀ (i : Nat) (o : Option Nat), G.loc[i]? = some o → G'.loc[i]? = some o ∨ G'.loc[i]? = some none
  tok : ∀ (i v b k : Nat), G.tok[i]? = some (v, b, k) → ∃ v' b' k', G'.tok[i]? = some (v', b', k') ∧ v ≤ v' ∧ (v' = v → b' = b ∧ k' = k ∧ ∀ n, Blk w b n → Blk w' b n)
  out : G'.out = G.out

theorem Ge.refl (G : Gh) (w : World) : Ge G w G w where
  cell := fun a u h s => ⟨h, s⟩
  loc := fun _ _ h => .inl h
  tok := fun i v b k h => ⟨v, b, k, h, Nat.le_refl v, fun _ => ⟨rfl, rfl, fun _ h => h⟩⟩
  out := rfl

theorem Ge.trans {G G1 G2 : Gh} {w w1 w2 : World} (h : Ge G w G1 w1) (h' : Ge G1 w1 G2 w2) : Ge G w G2 w2 where
  cell := fun a u c s => by
    obtain ⟨c1, s1⟩ := h.cell a u c s
    exact h'.cell a u c1 s1
  loc := fun i o l => by
    rcases h.loc i o l with l | l
    · exact h'.loc i o l
    · exact .inr ((h'.loc i none l).elim id id)
  tok := fun i v b k t => by
    obtain ⟨v1, b1, k1, t1, le1, e1⟩ := h.tok i v b k t
    obtain ⟨v2, b2, k2, t2, le2, e2⟩ := h'.tok i v1 b1 k1 t1
    refine ⟨v2, b2, k2, t2, Nat.le_trans le1 le2, fun e => ?_⟩
    obtain ⟨rfl, rfl, f1⟩ := e1 (by omega)
    obtain ⟨rfl, rfl, f2⟩ := e2 (by omega)
    exact ⟨rfl, rfl, fun n b => f2 n (f1 n b)⟩
  out := h'.out.trans h.out

theorem Cell.mono {G G' : Gh} {w w' : World} (hg : Ge G w G' w') {a : Addr} {u : Value} (h : Cell G w a u) : Cell G' w' a u :=
  ⟨(hg.cell a u h.1 h.2.1).1, (hg.cell a u h.1 h.2.1).2, h.2.2⟩

theorem OwnOk.mono {G G' : Gh} {w w' : World} (hg : Ge G w G' w') {A : Option Addr} {n sz cap : Nat} : ∀ {o : Own}, OwnOk G w A n sz cap o → OwnOk G' w' A n sz cap o
  | .dead, _ => trivial
  | .full, h => h
  | .tok i v, h => by
    obtain ⟨v1, b, k, t, le, f⟩ := h
    obtain ⟨v2, b2, k2, t2, le2, f2⟩ := hg.tok i v1 b k t
    refine ⟨v2, b2, k2, t2, Nat.le_trans le le2, fun e => ?_⟩
    obtain ⟨rfl, rfl, hb⟩ := f2 (by omega)
    obtain ⟨h1, h2, h3⟩ := f (by omega)
    exact ⟨h1, h2, hb _ h3⟩

theorem VR.mono {G G' : Gh} {w w' : World} (hg : Ge G w G' w') {a : AV} {v : Value} (h : VR G w a v) : VR G' w' a v := by
  induction h with
  | undef => exact .undef
  | bool => exact .bool
  | int => exact .int
  | agg hl h1 _ ih => exact .agg hl h1 ih
  | tup hl _ ih => exact .tup hl ih
  | sl u hc hz ha _ ho ih =>
    refine .sl u hc hz (fun i j hi hj => ?_) ih (ho.mono hg)
    obtain ⟨a, e, c⟩ := ha i j hi hj
    exact ⟨a, e, c.mono hg⟩
  | row h hv =>
    rcases hg.loc _ _ h with h | h
    · exact .row h hv
    · exact .row h (fun _ e => by cases e)
  | loc h hv =>
    rcases hg.loc _ _ h with h | h
    · exact .loc h hv
    · exact .loc h (fun _ e => by cases e)
  | rp u ha _ ih => exact .rp u (fun j hj => (ha j hj).mono hg) ih
  | nilp => exact .nilp
  | fn hl _ ih => exact .fn hl ih
  | nilf => exact .nilf
  | iface _ ih => exact .iface ih
  | nili => exact .nili

theorem VRs.mono {G G' : Gh} {w w' : World} (hg : Ge G w G' w') {cs : List AV} {vs : List Value} (h : VRs G w cs vs) : VRs G' w' cs vs := ⟨h.1, fun i a b => (h.2 i a b).mono hg⟩

theorem VRs.nil (G : Gh) (w : World) : VRs G w [] [] := ⟨rfl, fun i h => by simp at h⟩
theorem VRs.cons {G : Gh} {w : World} {c : AV} {v : Value} {cs : List AV} {vs : List Value} (h : VR G w c v) (hs : VRs G w cs vs) : VRs G w (c :: cs) (v :: vs) :=
  ⟨by simp [hs.1], fun i a b => by
    cases i with
    | zero => exact h
    | succ i => exact hs.2 i (by simpa using a) (by simpa using b)⟩
theorem VRs.uncons {G : Gh} {w : World} {c : AV} {cs : List AV} {vs : List Value} (h : VRs G w (c :: cs) vs) : ∃ v vs', vs = v :: vs' ∧ VR G w c v ∧ VRs G w cs vs' := by
  cases vs with
  | nil => have := h.1; simp at this
  | cons v vs =>
    refine ⟨v, vs, rfl, h.2 0 (by simp) (by simp), by have := h.1; simpa using this, fun i a b => ?_⟩
    have := h.2 (i + 1) (by simpa using a) (by simpa using b)
    simpa using this
theorem VRs.append {G : Gh} {w : World} {cs ds : List AV} {vs us : List Value} (h : VRs G w cs vs) (h' : VRs G w ds us) : VRs G w (cs ++ ds) (vs ++ us) := by
  induction cs generalizing vs with
  | nil =>
    have : vs = [] := List.eq_nil_of_length_eq_zero (by have := h.1; simpa using this.symm)
    subst this; exact h'
  | cons c cs ih =>
    obtain ⟨v, vs', rfl, h1, h2⟩ := h.uncons
    exact .cons h1 (ih h2)
theorem VRs.get {G : Gh} {w : World} {cs : List AV} {vs : List Value} (h : VRs G w cs vs) {i : Nat} {c : AV} (hi : cs[i]? = some c) : ∃ v, vs[i]? = some v ∧ VR G w c v := by
  obtain ⟨hlt, rfl⟩ := List.getElem?_eq_some_iff.1 hi
  have hlt' : i < vs.length := h.1 ▸ hlt
  exact ⟨vs[i], List.getElem?_eq_getElem hlt', h.2 i hlt hlt'⟩
theorem VRs.set {G : Gh} {w : World} {cs : List AV} {vs : List Value} (h : VRs G w cs vs) {c : AV} {v : Value} (hc : VR G w c v) (i : Nat) : VRs G w (cs.set i c) (vs.set i v) :=
  ⟨by simp [h.1], fun j a b => by
    simp only [List.getElem_set]
    split
    · exact hc
    · exact h.2 j (by simpa using a) (by simpa using b)⟩
theorem VRs.take {G : Gh} {w : World} {cs : List AV} {vs : List Value} (h : VRs G w cs vs) (n : Nat) : VRs G w (cs.take n) (vs.take n) :=
  ⟨by simp [h.1], fun j a b => by simp only [List.getElem_take]; exact h.2 j _ _⟩
theorem VRs.drop {G : Gh} {w : World} {cs : List AV} {vs : List Value} (h : VRs G w cs vs) (n : Nat) : VRs G w (cs.drop n) (vs.drop n) :=
  ⟨by simp [h.1], fun j a b => by simp only [List.getElem_drop]; exact h.2 _ _ _⟩

/-- Without places, and with no room known. -/
theorem VR.weaken {G G' : Gh} {w w' : World} (hc : ∀ (a : Addr) (u : Value), w.cell? a = some u → Stab G w a → w'.cell? a = some u ∧ Stab G' w' a)
    (g : Nat → Nat → AV) {a : AV} {v : Value} (h : VR G w a v) (hg : ∀ b off v, VR G w (.loc b off) v → VR G' w' (g b off) v) : VR G' w' (mapLoc g a) v := by
  have ml : ∀ l : List AV, mapLocs g l = l.map (mapLoc g) := by
    intro l
    induction l with
    | nil => rfl
    | cons x l ih => simp only [mapLocs, List.map_cons, ih]
  have mls : ∀ l : List (List AV), mapLocss g l = l.map (mapLocs g) := by
    intro l
    induction l with
    | nil => rfl
    | cons x l ih => simp only [mapLocss, List.map_cons, ih]
  have cell : ∀ a u, Cell G w a u → Cell G' w' a u := fun a u h => ⟨(hc a u h.1 h.2.1).1, (hc a u h.1 h.2.1).2, h.2.2⟩
  induction h with
  | undef => exact .undef
  | bool => exact .bool
  | int => exact .int
  | agg hl h1 _ ih =>
    simp only [mapLoc, ml]
    exact .agg (by simpa using hl) (fun i a b => h1 i (by simpa using a) b) (fun i a b => by simpa using ih i (by simpa using a) b)
  | tup hl _ ih =>
    simp only [mapLoc, ml]
    exact .tup (by simpa using hl) (fun i a b => by simpa using ih i (by simpa using a) b)
  | @sl es o A cap sz u h0 hz ha _ ho ih =>
    simp only [mapLoc, mls]
    rw [show es.length = (es.map (mapLocs g)).length by simp]
    refine .sl (sz := sz) u (by simpa using h0) (fun i hi => ?_) (fun i j hi hj => ?_) (fun i hi j hj => ?_) trivial
    · simp only [List.getElem_map, ml, List.length_map]; exact hz i (by simpa using hi)
    · obtain ⟨a, e, c⟩ := ha i j (by simpa using hi) hj
      exact ⟨a, e, cell _ _ c⟩
    · simp only [List.getElem_map, ml]
      simp only [List.getElem_map, ml, List.length_map] at hj
      exact ih i (by simpa using hi) j hj
  | row h hv => exact .undef
  | loc h hv => exact hg _ _ _ (.loc h hv)
  | rp u ha _ ih =>
    simp only [mapLoc, ml]
    exact .rp u (fun j hj => cell _ _ (ha j (by simpa using hj))) (fun j hj => by simpa using ih j (by simpa using hj))
  | nilp => exact .nilp
  | fn hl _ ih =>
    simp only [mapLoc, ml]
    exact .fn (by simpa using hl) (fun i a b => by simpa using ih i (by simpa using a) b)
  | nilf => exact .nilf
  | iface _ ih => simp only [mapLoc]; exact .iface ih
  | nili => exact .nili

end M
end Go.Proofs.Ytgkdehfbeejlfaa
