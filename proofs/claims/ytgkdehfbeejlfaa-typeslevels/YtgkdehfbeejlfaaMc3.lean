/- SOUNDNESS 2: the store of T and the world (SR); how a world goes on (Mv); types (CxOk); operands. -/
import Derived.Test.YtgkdehfbeejlfaaMc2
import Derived.Laws.AppendOwn
import Derived.Laws.Cells
import Derived.Laws.Rows
set_option linter.unusedVariables false
set_option linter.unusedSimpArgs false
namespace Go.Proofs.Ytgkdehfbeejlfaa
namespace M

/-- The store of T and the tokens, as the world has them. -/
structure SR (G : Gh) (S : St) (w : World) : Prop where
  len : S.σ.length = G.loc.length
  blk : ∀ (i : Nat) (cs : List AV), S.σ[i]? = some cs → cs ≠ [] → ∃ b vs t, G.loc[i]? = some (some b) ∧ w.heap[b]? = some (.cells vs t (0, 0)) ∧ VRs G w cs vs.toList ∧ ∀ v ∈ vs.toList, v.oneCell' = true
  nd : ∀ (i j b : Nat), G.loc[i]? = some (some b) → G.loc[j]? = some (some b) → i = j
  tk : S.tk = G.tok.map (·.1)
  tnd : ∀ (i j v b k v' k' : Nat), G.tok[i]? = some (v, b, k) → G.tok[j]? = some (v', b, k') → i = j
  dis : ∀ e ∈ G.tok, some e.2.1 ∉ G.loc
  tlt : ∀ e ∈ G.tok, e.2.1 < w.heap.size
  llt : ∀ b, some b ∈ G.loc → b < w.heap.size
  od : ∀ e ∈ G.out, e.1 < w.heap.size ∧ some e.1 ∉ G.loc ∧ ∀ e' ∈ G.tok, e'.2.1 ≠ e.1

/-- How a world goes on: what is stable stays; only the store's blocks and those of the tokens change. -/
structure Mv (G : Gh) (w : World) (G' : Gh) (w' : World) : Prop where
  ge : Ge G w G' w'
  os : w'.os = w.os
  tape : w'.tape = w.tape
  output : w'.output = w.output
  size : w.heap.size ≤ w'.heap.size
  blk : ∀ i, i < w.heap.size → some i ∉ G.loc → (∀ e ∈ G.tok, e.2.1 ≠ i) → w'.heap[i]? = w.heap[i]?
  nl : ∀ b, some b ∈ G'.loc → some b ∈ G.loc ∨ w.heap.size ≤ b
  nt : ∀ e ∈ G'.tok, (∃ e' ∈ G.tok, e'.2.1 = e.2.1) ∨ w.heap.size ≤ e.2.1

theorem Mv.refl (G : Gh) (w : World) : Mv G w G w := ⟨Ge.refl G w, rfl, rfl, rfl, Nat.le_refl _, fun _ _ _ _ => rfl, fun _ h => .inl h, fun e h => .inl ⟨e, h, rfl⟩⟩
theorem Mv.trans {G G1 G2 : Gh} {w w1 w2 : World} (h : Mv G w G1 w1) (h' : Mv G1 w1 G2 w2) : Mv G w G2 w2 where
  ge := h.ge.trans h'.ge
  os := h'.os.trans h.os
  tape := h'.tape.trans h.tape
  output := h'.output.trans h.output
  size := Nat.le_trans h.size h'.size
  blk := fun i hi hl ht => by
    rw [h'.blk i (Nat.lt_of_lt_of_le hi h.size) (fun hm => ?_) (fun e he hb => ?_), h.blk i hi hl ht]
    · rcases h.nl i hm with h1 | h1
      · exact hl h1
      · omega
    · rcases h.nt e he with ⟨e', h1, h2⟩ | h1
      · exact ht e' h1 (h2.trans hb)
      · omega
  nl := fun b hb => by
    rcases h'.nl b hb with h1 | h1
    · exact h.nl b h1
    · exact .inr (Nat.le_trans h.size h1)
  nt := fun e he => by
    rcases h'.nt e he with ⟨e', h1, h2⟩ | h1
    · rcases h.nt e' h1 with ⟨e'', h3, h4⟩ | h3
      · exact .inl ⟨e'', h3, h4.trans h2⟩
      · exact .inr (by omega)
    · exact .inr (Nat.le_trans h.size h1)

/-- Nothing that was there changes. -/
structure Old (w w' : World) : Prop where
  os : w'.os = w.os
  tape : w'.tape = w.tape
  output : w'.output = w.output
  size : w.heap.size ≤ w'.heap.size
  blk : ∀ i, i < w.heap.size → w'.heap[i]? = w.heap[i]?

theorem Old.cell {w w' : World} (h : Old w w') {a : Addr} {u : Value} (hc : w.cell? a = some u) : w'.cell? a = some u :=
  (World.cell?_of_block (h.blk a.block (block_lt_of_cell hc))).trans hc

theorem Old.Blk {w w' : World} (h : Old w w') {b n : Nat} (hb : Blk w b n) : Blk w' b n := by
  obtain ⟨cs, t, h1, h2⟩ := hb
  exact ⟨cs, t, (h.blk b (Array.getElem?_eq_some_iff.1 h1).1).trans h1, h2⟩

theorem Stab.old {G : Gh} {w w' : World} (h : w.heap.size ≤ w'.heap.size) {a : Addr} (s : Stab G w a) : Stab G w' a := ⟨Nat.lt_of_lt_of_le s.1 h, s.2.1, s.2.2⟩

theorem Old.ge {w w' : World} (h : Old w w') (G : Gh) : Ge G w G w' where
  cell := fun a u hc s => ⟨h.cell hc, s.old h.size⟩
  loc := fun i o l => .inl l
  tok := fun i v b k t => ⟨v, b, k, t, Nat.le_refl v, fun _ => ⟨rfl, rfl, fun n hb => h.Blk hb⟩⟩
  out := rfl

theorem Old.mv {w w' : World} (h : Old w w') (G : Gh) : Mv G w G w' :=
  ⟨h.ge G, h.os, h.tape, h.output, h.size, fun i hi _ _ => h.blk i hi, fun _ hb => .inl hb, fun e he => .inl ⟨e, he, rfl⟩⟩

theorem Old.sr {w w' : World} (h : Old w w') {G : Gh} {S : St} (s : SR G S w) : SR G S w' where
  len := s.len
  blk := fun i cs hi hne => by
    obtain ⟨b, vs, t, h1, h2, h3, h4⟩ := s.blk i cs hi hne
    exact ⟨b, vs, t, h1, (h.blk b (Array.getElem?_eq_some_iff.1 h2).1).trans h2, h3.mono (h.ge G), h4⟩
  nd := s.nd
  tk := s.tk
  tnd := s.tnd
  dis := s.dis
  tlt := fun e he => Nat.lt_of_lt_of_le (s.tlt e he) h.size
  llt := fun b hb => Nat.lt_of_lt_of_le (s.llt b hb) h.size
  od := fun e he => ⟨Nat.lt_of_lt_of_le (s.od e he).1 h.size, (s.od e he).2⟩

theorem Old.refl (w : World) : Old w w := ⟨rfl, rfl, rfl, Nat.le_refl _, fun _ _ => rfl⟩
theorem Old.alloc (w : World) (o : Obj) : Old w (w.alloc o) := ⟨rfl, rfl, rfl, by simp, fun i hi => heap_alloc_old w o i hi⟩
theorem Old.push (w : World) (o : Obj) : Old w { w with heap := w.heap.push o } := Old.alloc w o
theorem Old.drew (w : World) : Old w { w with drawn := w.drawn + 1 } := ⟨rfl, rfl, rfl, Nat.le_refl _, fun _ _ => rfl⟩
theorem Old.trans {w w1 w2 : World} (h : Old w w1) (h' : Old w1 w2) : Old w w2 :=
  ⟨h'.os.trans h.os, h'.tape.trans h.tape, h'.output.trans h.output, Nat.le_trans h.size h'.size, fun i hi => (h'.blk i (Nat.lt_of_lt_of_le hi h.size)).trans (h.blk i hi)⟩

/-! ### Types -/
def KindOk (P : Program) (t : Nat) (ti : TI) (z : Value) : Prop := match ti.kind with
  | .atom => (∃ d, P.underlying t = some d ∧ (match d with | .struct _ | .array _ _ | .interface _ => false | _ => true) = true) ∧ z.oneCell' = true ∧ ti.size = 1
  | .ptr => (∃ e, P.underlying t = some (.pointer e)) ∧ z.oneCell' = true ∧ ti.size = 1
  | .iface => (∃ ms, P.underlying t = some (.interface ms)) ∧ z.oneCell' = true ∧ ti.size = 1
  | .slice e => P.underlying t = some (.slice e) ∧ z.oneCell' = true ∧ ti.size = 1
  | .struct fs => (∃ fields, P.underlying t = some (.struct fields) ∧ fs = (fields.toList.map fun f => (f.offset, f.type)) ∧ ∃ places, fields.toList.mapM (fun f => (P.info? f.type).map fun i => (f.offset, i.size)) = some places) ∧ ∃ cs, z = .agg cs
  | .arr n e => P.underlying t = some (.array n e) ∧ ∃ cs, z = .agg cs

structure CxOk (cx : Cx) : Prop where
  ty : ∀ (t : Nat) (ti : TI), cx.ty t = some ti → ∃ i z, cx.P.info? t = some i ∧ i.size = ti.size ∧ i.bytes = ti.bytes ∧ i.zero = some z ∧ absCells z.cells.toList = some ti.zero ∧ z.cells.size = ti.size ∧ KindOk cx.P t ti z
  mixed : cx.P.follows .mixedOrders = true

theorem absCells_rel (G : Gh) (w : World) : ∀ (vs : List Value) (cs : List AV), absCells vs = some cs → VRs G w cs vs ∧ ∀ v ∈ vs, v.oneCell' = true := by
  intro vs
  induction vs with
  | nil => intro cs h; cases h; exact ⟨VRs.nil G w, by simp⟩
  | cons v vs ih =>
    intro cs h
    have key : ∀ c : AV, VR G w c v → v.oneCell' = true → (absCells vs).map (c :: ·) = some cs → VRs G w cs (v :: vs) ∧ ∀ x ∈ v :: vs, x.oneCell' = true := by
      intro c hc h1 h
      obtain ⟨cs', h2, rfl⟩ := Option.map_eq_some_iff.1 h
      obtain ⟨h3, h4⟩ := ih cs' h2
      exact ⟨.cons hc h3, fun x hx => (List.mem_cons.1 hx).elim (fun e => e ▸ h1) (h4 x)⟩
    unfold absCells at h
    split at h
    · rename_i e; cases e
    · rename_i e; cases e; exact key _ .bool rfl h
    · rename_i e; cases e; exact key _ .int rfl h
    · rename_i e; cases e
      exact key _ (.sl (es := []) (sz := 0) (fun _ _ => Go.undef) (Nat.le_refl 0) (by simp) (by simp) (by simp) (by simp [OwnOk])) rfl h
    · rename_i e; cases e; exact key _ .nilp rfl h
    · rename_i e; cases e; exact key _ .nilf rfl h
    · rename_i e; cases e; exact key _ .nili rfl h
    · cases h

theorem VR.agg_of {G : Gh} {w : World} {cs : List AV} {vs : Array Value} (h : VRs G w cs vs.toList) (h1 : ∀ v ∈ vs.toList, v.oneCell' = true) : VR G w (.agg cs) (.agg vs) := by
  have := VR.agg (G := G) (w := w) (cs := cs) (vs := vs.toList) h.1 (fun i _ b => h1 _ (List.getElem_mem b)) h.2
  simpa using this

theorem VR.tup_of {G : Gh} {w : World} {cs : List AV} {vs : Array Value} (h : VRs G w cs vs.toList) : VR G w (.tup cs) (.tuple vs) := by
  have := VR.tup (G := G) (w := w) (cs := cs) (vs := vs.toList) h.1 h.2
  simpa using this

theorem VR.noval (G : Gh) (w : World) : VR G w (.tup []) Go.undef := VR.tup_of (vs := #[]) (VRs.nil G w)

theorem absV_rel (G : Gh) (w : World) {v : Value} {a : AV} (h : absV v = some a) : VR G w a v := by
  unfold absV at h
  split at h
  · rename_i cs
    obtain ⟨c, h1, rfl⟩ := Option.map_eq_some_iff.1 h
    obtain ⟨h2, h3⟩ := absCells_rel G w _ _ h1
    exact .agg_of h2 h3
  · cases h; exact .bool
  · cases h; exact .int
  · cases h; exact .sl (es := []) (sz := 0) (fun _ _ => Go.undef) (Nat.le_refl 0) (by simp) (by simp) (by simp) (by simp [OwnOk])
  · cases h; exact .nilp
  · cases h; exact .nilf
  · cases h; exact .nili
  · cases h

/-! ### Operands -/
theorem getD_rel {G : Gh} {w : World} {r : Regs} {tmps : Array Value} (h : VRs G w r tmps.toList) (t : Nat) : VR G w (r.getD t (.tup [])) (tmps.getD t Go.undef) := by
  by_cases ht : t < r.length
  · have ht' : t < tmps.toList.length := h.1 ▸ ht
    have h1 := h.2 t ht ht'
    have e1 : r.getD t (.tup []) = r[t] := by simp [List.getD, List.getElem?_eq_getElem ht]
    have e2 : tmps.getD t Go.undef = tmps.toList[t] := by
      have : t < tmps.size := by simpa using ht'
      simp [Array.getD, this]
    rw [e1, e2]; exact h1
  · have ht' : ¬ t < tmps.size := by have := h.1; simp at this; omega
    have e1 : r.getD t (.tup []) = .tup [] := by simp [List.getD, List.getElem?_eq_none (Nat.le_of_not_lt ht)]
    have e2 : tmps.getD t Go.undef = undef := by simp [Array.getD, ht']
    rw [e1, e2]; exact .noval G w

theorem ev_rel {G : Gh} {w : World} {r : Regs} {a : Act} (h : VRs G w r a.tmps.toList) {x : Operand} {v : AV} (hv : ev r x = some v) : VR G w v (a.eval x) := by
  cases x with
  | tmp t => cases hv; exact getD_rel h t
  | const c => exact absV_rel G w hv
  | global g => cases hv
  | func f => cases hv; exact .fn (cs := []) (vs := []) rfl (by simp)

theorem evs_rel {G : Gh} {w : World} {r : Regs} {a : Act} (h : VRs G w r a.tmps.toList) : ∀ {xs : List Operand} {vs : List AV}, evs r xs = some vs → VRs G w vs (xs.map a.eval)
  | [], vs, hv => by cases hv; exact VRs.nil G w
  | x :: xs, vs, hv => by
    simp only [evs, Option.bind_eq_some_iff, Option.map_eq_some_iff] at hv
    obtain ⟨v, h1, vs', h2, rfl⟩ := hv
    exact .cons (ev_rel h h1) (evs_rel h h2)

theorem evp_rel {G : Gh} {w : World} {r : Regs} {a : Act} (h : VRs G w r a.tmps.toList) : ∀ {xs : List (Nat × Operand)} {vs : List (Nat × AV)}, evp r xs = some vs →
    vs.map (·.1) = xs.map (·.1) ∧ VRs G w (vs.map (·.2)) ((xs.map (·.2)).map a.eval)
  | [], vs, hv => by cases hv; exact ⟨rfl, VRs.nil G w⟩
  | x :: xs, vs, hv => by
    simp only [evp, Option.bind_eq_some_iff, Option.map_eq_some_iff] at hv
    obtain ⟨v, h1, vs', h2, rfl⟩ := hv
    obtain ⟨h3, h4⟩ := evp_rel h h2
    exact ⟨by simp [h3], .cons (ev_rel h h1) h4⟩

end M
end Go.Proofs.Ytgkdehfbeejlfaa
