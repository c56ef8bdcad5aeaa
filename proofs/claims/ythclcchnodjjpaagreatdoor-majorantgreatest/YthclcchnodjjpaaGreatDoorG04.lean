/- A part of the proof: Mc3, Mc4. -/
import Derived.Test.YthclcchnodjjpaaGreatDoorG03
import Derived.Laws.AppendOwn
import Derived.Laws.Cells
import Derived.Laws.Rows
/- SOUNDNESS 2: the store of T and the world (SR); how a world goes on (Mv); types (CxOk); operands. -/
set_option linter.unusedVariables false
set_option linter.unusedSimpArgs false
namespace Go.Proofs.YthclcchnodjjpaaGreatDoor
namespace M

/-- The package variables hold what is known of them. -/
def Glb (G : Gh) (w : World) : Prop := ∀ e ∈ globs, VR G w (.rp e.2) (.pointer (some ⟨e.1, 0, none⟩))

/-- The store of T and the tokens, as the world has them. -/
structure SR (G : Gh) (S : St) (w : World) : Prop where
  len : S.σ.length = G.loc.length
  blk : ∀ (i : Nat) (cs : List AV), S.σ[i]? = some cs → cs ≠ [] → ∃ b vs t, G.loc[i]? = some (some b) ∧ w.heap[b]? = some (.cells vs t (0, 0)) ∧ VRs G w cs vs.toList ∧ ∀ v ∈ vs.toList, v.oneCell' = true
  nd : ∀ (i j b : Nat), G.loc[i]? = some (some b) → G.loc[j]? = some (some b) → i = j
  tk : S.tk = G.tok.map (·.1)
  tnd : ∀ (i j v b k v' k' : Nat), G.tok[i]? = some (v, b, k) → G.tok[j]? = some (v', b, k') → i = j
  dis : ∀ e ∈ G.tok, some e.2.1 ∉ G.loc
  tlt : ∀ e ∈ G.tok, e.2.1 < w.heap.size
  llt : ∀ b, some b ∈ G.loc → b < w.heap.size
  od : ∀ e ∈ G.out, e.1 < w.heap.size ∧ some e.1 ∉ G.loc ∧ ∀ e' ∈ G.tok, e'.2.1 ≠ e.1
  gl : Glb G w

/-- How a world goes on: what is stable stays; only the store's blocks and those of the tokens change. -/
structure Mv (G : Gh) (w : World) (G' : Gh) (w' : World) : Prop where
  ge : Ge G w G' w'
  os : w'.os = w.os
  tape : w'.tape = w.tape
  output : w'.output = w.output
  size : w.heap.size ≤ w'.heap.size
  blk : ∀ i, i < w.heap.size → some i ∉ G.loc → (∀ e ∈ G.tok, e.2.1 ≠ i) → w'.heap[i]? = w.heap[i]?
  nl : ∀ b, some b ∈ G'.loc → some b ∈ G.loc ∨ w.heap.size ≤ b
  nt : ∀ e ∈ G'.tok, (∃ e' ∈ G.tok, e'.2.1 = e.2.1) ∨ w.heap.size ≤ e.2.1

theorem Mv.refl (G : Gh) (w : World) : Mv G w G w := ⟨Ge.refl G w, rfl, rfl, rfl, Nat.le_refl _, fun _ _ _ _ => rfl, fun _ h => .inl h, fun e h => .inl ⟨e, h, rfl⟩⟩
theorem Mv.trans {G G1 G2 : Gh} {w w1 w2 : World} (h : Mv G w G1 w1) (h' : Mv G1 w1 G2 w2) : Mv G w G2 w2 where
  ge := h.ge.trans h'.ge
  os := h'.os.trans h.os
  tape := h'.tape.trans h.tape
  output := h'.output.trans h.output
  size := Nat.le_trans h.size h'.size
  blk := fun i hi hl ht => by
    rw [h'.blk i (Nat.lt_of_lt_of_le hi h.size) (fun hm => ?_) (fun e he hb => ?_), h.blk i hi hl ht]
    · rcases h.nl i hm with h1 | h1
      · exact hl h1
      · omega
    · rcases h.nt e he with ⟨e', h1, h2⟩ | h1
      · exact ht e' h1 (h2.trans hb)
      · omega
  nl := fun b hb => by
    rcases h'.nl b hb with h1 | h1
    · exact h.nl b h1
    · exact .inr (Nat.le_trans h.size h1)
  nt := fun e he => by
    rcases h'.nt e he with ⟨e', h1, h2⟩ | h1
    · rcases h.nt e' h1 with ⟨e'', h3, h4⟩ | h3
      · exact .inl ⟨e'', h3, h4.trans h2⟩
      · exact .inr (by omega)
    · exact .inr (Nat.le_trans h.size h1)

/-- Nothing that was there changes. -/
structure Old (w w' : World) : Prop where
  os : w'.os = w.os
  tape : w'.tape = w.tape
  output : w'.output = w.output
  size : w.heap.size ≤ w'.heap.size
  blk : ∀ i, i < w.heap.size → w'.heap[i]? = w.heap[i]?

theorem Old.cell {w w' : World} (h : Old w w') {a : Addr} {u : Value} (hc : w.cell? a = some u) : w'.cell? a = some u :=
  (World.cell?_of_block (h.blk a.block (block_lt_of_cell hc))).trans hc

theorem Old.Blk {w w' : World} (h : Old w w') {b n : Nat} (hb : Blk w b n) : Blk w' b n := by
  obtain ⟨cs, t, h1, h2⟩ := hb
  exact ⟨cs, t, (h.blk b (Array.getElem?_eq_some_iff.1 h1).1).trans h1, h2⟩

theorem Stab.old {G : Gh} {w w' : World} (h : w.heap.size ≤ w'.heap.size) {a : Addr} (s : Stab G w a) : Stab G w' a := ⟨Nat.lt_of_lt_of_le s.1 h, s.2.1, s.2.2⟩

theorem Old.ge {w w' : World} (h : Old w w') (G : Gh) : Ge G w G w' where
  cell := fun a u hc s => ⟨h.cell hc, s.old h.size⟩
  loc := fun i o l => .inl l
  tok := fun i v b k t => ⟨v, b, k, t, Nat.le_refl v, fun _ => ⟨rfl, rfl, fun n hb => h.Blk hb⟩⟩
  out := rfl

theorem Old.mv {w w' : World} (h : Old w w') (G : Gh) : Mv G w G w' :=
  ⟨h.ge G, h.os, h.tape, h.output, h.size, fun i hi _ _ => h.blk i hi, fun _ hb => .inl hb, fun e he => .inl ⟨e, he, rfl⟩⟩

theorem Old.sr {w w' : World} (h : Old w w') {G : Gh} {S : St} (s : SR G S w) : SR G S w' where
  len := s.len
  blk := fun i cs hi hne => by
    obtain ⟨b, vs, t, h1, h2, h3, h4⟩ := s.blk i cs hi hne
    exact ⟨b, vs, t, h1, (h.blk b (Array.getElem?_eq_some_iff.1 h2).1).trans h2, h3.mono (h.ge G), h4⟩
  nd := s.nd
  tk := s.tk
  tnd := s.tnd
  dis := s.dis
  tlt := fun e he => Nat.lt_of_lt_of_le (s.tlt e he) h.size
  llt := fun b hb => Nat.lt_of_lt_of_le (s.llt b hb) h.size
  od := fun e he => ⟨Nat.lt_of_lt_of_le (s.od e he).1 h.size, (s.od e he).2⟩
  gl := fun e he => (s.gl e he).mono (h.ge G)

theorem Old.refl (w : World) : Old w w := ⟨rfl, rfl, rfl, Nat.le_refl _, fun _ _ => rfl⟩
theorem Old.alloc (w : World) (o : Obj) : Old w (w.alloc o) := ⟨rfl, rfl, rfl, by simp, fun i hi => heap_alloc_old w o i hi⟩
theorem Old.push (w : World) (o : Obj) : Old w { w with heap := w.heap.push o } := Old.alloc w o
theorem Old.drew (w : World) : Old w { w with drawn := w.drawn + 1 } := ⟨rfl, rfl, rfl, Nat.le_refl _, fun _ _ => rfl⟩
theorem Old.trans {w w1 w2 : World} (h : Old w w1) (h' : Old w1 w2) : Old w w2 :=
  ⟨h'.os.trans h.os, h'.tape.trans h.tape, h'.output.trans h.output, Nat.le_trans h.size h'.size, fun i hi => (h'.blk i (Nat.lt_of_lt_of_le hi h.size)).trans (h.blk i hi)⟩

/-! ### Types -/
def KindOk (P : Program) (t : Nat) (ti : TI) (z : Value) : Prop := match ti.kind with
  | .atom => (∃ d, P.underlying t = some d ∧ (match d with | .struct _ | .array _ _ | .interface _ => false | _ => true) = true) ∧ z.oneCell' = true ∧ ti.size = 1
  | .ptr => (∃ e, P.underlying t = some (.pointer e)) ∧ z.oneCell' = true ∧ ti.size = 1
  | .iface => (∃ ms, P.underlying t = some (.interface ms)) ∧ z.oneCell' = true ∧ ti.size = 1
  | .slice e => P.underlying t = some (.slice e) ∧ z.oneCell' = true ∧ ti.size = 1
  | .struct fs => (∃ fields, P.underlying t = some (.struct fields) ∧ fs = (fields.toList.map fun f => (f.offset, f.type)) ∧ ∃ places, fields.toList.mapM (fun f => (P.info? f.type).map fun i => (f.offset, i.size)) = some places) ∧ ∃ cs, z = .agg cs
  | .arr n e => P.underlying t = some (.array n e) ∧ ∃ cs, z = .agg cs

structure CxOk (cx : Cx) : Prop where
  ty : ∀ (t : Nat) (ti : TI), cx.ty t = some ti → ∃ i z, cx.P.info? t = some i ∧ i.size = ti.size ∧ i.bytes = ti.bytes ∧ i.zero = some z ∧ absCells z.cells.toList = some ti.zero ∧ z.cells.size = ti.size ∧ KindOk cx.P t ti z
  mixed : cx.P.follows .mixedOrders = true

theorem absCells_rel (G : Gh) (w : World) : ∀ (vs : List Value) (cs : List AV), absCells vs = some cs → VRs G w cs vs ∧ ∀ v ∈ vs, v.oneCell' = true := by
  intro vs
  induction vs with
  | nil => intro cs h; cases h; exact ⟨VRs.nil G w, by simp⟩
  | cons v vs ih =>
    intro cs h
    have key : ∀ c : AV, VR G w c v → v.oneCell' = true → (absCells vs).map (c :: ·) = some cs → VRs G w cs (v :: vs) ∧ ∀ x ∈ v :: vs, x.oneCell' = true := by
      intro c hc h1 h
      obtain ⟨cs', h2, rfl⟩ := Option.map_eq_some_iff.1 h
      obtain ⟨h3, h4⟩ := ih cs' h2
      exact ⟨.cons hc h3, fun x hx => (List.mem_cons.1 hx).elim (fun e => e ▸ h1) (h4 x)⟩
    unfold absCells at h
    split at h
    · rename_i e; cases e
    · rename_i e; cases e; exact key _ .bool rfl h
    · rename_i e; cases e; exact key _ .int rfl h
    · rename_i e; cases e
      exact key _ (.sl (es := []) (sz := 0) (fun _ _ => Go.undef) (Nat.le_refl 0) (by simp) (by simp) (by simp) (by simp [OwnOk])) rfl h
    · rename_i e; cases e; exact key _ .nilp rfl h
    · rename_i e; cases e; exact key _ .nilf rfl h
    · rename_i e; cases e; exact key _ .nili rfl h
    · cases h

theorem VR.agg_of {G : Gh} {w : World} {cs : List AV} {vs : Array Value} (h : VRs G w cs vs.toList) (h1 : ∀ v ∈ vs.toList, v.oneCell' = true) : VR G w (.agg cs) (.agg vs) := by
  have := VR.agg (G := G) (w := w) (cs := cs) (vs := vs.toList) h.1 (fun i _ b => h1 _ (List.getElem_mem b)) h.2
  simpa using this

theorem VR.tup_of {G : Gh} {w : World} {cs : List AV} {vs : Array Value} (h : VRs G w cs vs.toList) : VR G w (.tup cs) (.tuple vs) := by
  have := VR.tup (G := G) (w := w) (cs := cs) (vs := vs.toList) h.1 h.2
  simpa using this

theorem VR.noval (G : Gh) (w : World) : VR G w (.tup []) Go.undef := VR.tup_of (vs := #[]) (VRs.nil G w)

theorem absV_rel (G : Gh) (w : World) {v : Value} {a : AV} (h : absV v = some a) : VR G w a v := by
  unfold absV at h
  split at h
  · rename_i cs
    obtain ⟨c, h1, rfl⟩ := Option.map_eq_some_iff.1 h
    obtain ⟨h2, h3⟩ := absCells_rel G w _ _ h1
    exact .agg_of h2 h3
  · cases h; exact .bool
  · cases h; exact .int
  · cases h; exact .sl (es := []) (sz := 0) (fun _ _ => Go.undef) (Nat.le_refl 0) (by simp) (by simp) (by simp) (by simp [OwnOk])
  · cases h; exact .nilp
  · cases h; exact .nilf
  · cases h; exact .nili
  · cases h

/-! ### Operands -/
theorem getD_rel {G : Gh} {w : World} {r : Regs} {tmps : Array Value} (h : VRs G w r tmps.toList) (t : Nat) : VR G w (r.getD t (.tup [])) (tmps.getD t Go.undef) := by
  by_cases ht : t < r.length
  · have ht' : t < tmps.toList.length := h.1 ▸ ht
    have h1 := h.2 t ht ht'
    have e1 : r.getD t (.tup []) = r[t] := by simp [List.getD, List.getElem?_eq_getElem ht]
    have e2 : tmps.getD t Go.undef = tmps.toList[t] := by
      have : t < tmps.size := by simpa using ht'
      simp [Array.getD, this]
    rw [e1, e2]; exact h1
  · have ht' : ¬ t < tmps.size := by have := h.1; simp at this; omega
    have e1 : r.getD t (.tup []) = .tup [] := by simp [List.getD, List.getElem?_eq_none (Nat.le_of_not_lt ht)]
    have e2 : tmps.getD t Go.undef = undef := by simp [Array.getD, ht']
    rw [e1, e2]; exact .noval G w

theorem ev_rel {G : Gh} {w : World} {r : Regs} {a : Act} (gl : Glb G w) (h : VRs G w r a.tmps.toList) {x : Operand} {v : AV} (hv : ev r x = some v) : VR G w v (a.eval x) := by
  cases x with
  | tmp t => cases hv; exact getD_rel h t
  | const c => exact absV_rel G w hv
  | global g =>
    have key : ∀ (l : List (Nat × List AV)), (∀ e ∈ l, VR G w (.rp e.2) (.pointer (some ⟨e.1, 0, none⟩))) → ∀ cs, l.lookup g = some cs → VR G w (.rp cs) (.pointer (some ⟨g, 0, none⟩)) := fun l => by
      induction l with
      | nil => intro _ cs h; cases h
      | cons e l ih =>
        intro hl cs h
        obtain ⟨k, c⟩ := e
        simp only [List.lookup] at h
        split at h
        · rename_i hk
          have hk' : g = k := by simpa using hk
          cases h
          subst hk'
          exact hl (g, cs) (by simp)
        · exact ih (fun e he => hl e (by simp [he])) cs h
    have hv' : (globs.lookup g).map AV.rp = some v := hv
    obtain ⟨cs, h1, rfl⟩ := Option.map_eq_some_iff.1 hv'
    exact key globs gl cs h1
  | func f => cases hv; exact .fn (cs := []) (vs := []) rfl (by simp)

theorem evs_rel {G : Gh} {w : World} {r : Regs} {a : Act} (gl : Glb G w) (h : VRs G w r a.tmps.toList) : ∀ {xs : List Operand} {vs : List AV}, evs r xs = some vs → VRs G w vs (xs.map a.eval)
  | [], vs, hv => by cases hv; exact VRs.nil G w
  | x :: xs, vs, hv => by
    simp only [evs, Option.bind_eq_some_iff, Option.map_eq_some_iff] at hv
    obtain ⟨v, h1, vs', h2, rfl⟩ := hv
    exact .cons (ev_rel gl h h1) (evs_rel gl h h2)

theorem evp_rel {G : Gh} {w : World} {r : Regs} {a : Act} (gl : Glb G w) (h : VRs G w r a.tmps.toList) : ∀ {xs : List (Nat × Operand)} {vs : List (Nat × AV)}, evp r xs = some vs →
    vs.map (·.1) = xs.map (·.1) ∧ VRs G w (vs.map (·.2)) ((xs.map (·.2)).map a.eval)
  | [], vs, hv => by cases hv; exact ⟨rfl, VRs.nil G w⟩
  | x :: xs, vs, hv => by
    simp only [evp, Option.bind_eq_some_iff, Option.map_eq_some_iff] at hv
    obtain ⟨v, h1, vs', h2, rfl⟩ := hv
    obtain ⟨h3, h4⟩ := evp_rel gl h h2
    exact ⟨by simp [h3], .cons (ev_rel gl h h1) h4⟩

end M
end Go.Proofs.YthclcchnodjjpaaGreatDoor
/- SOUNDNESS 3: each operation that is no call. -/
set_option linter.unusedVariables false
set_option linter.unusedSimpArgs false
namespace Go.Proofs.YthclcchnodjjpaaGreatDoor
namespace M

/-- A program of the machine returns x, and the world goes on well. -/
def Runs {α : Type} (P : Program) (s : Sem α) (G : Gh) (w : World) (S' : St) (post : α → Gh → World → Prop) : Prop :=
  ∃ x w' G', s.run P w = .ok x w' ∧ SR G' S' w' ∧ Mv G w G' w' ∧ post x G' w'


theorem run_typeInfo {P : Program} {t : Nat} {i : TypeInfo} (h : P.info? t = some i) (w : World) : (typeInfo t).run P w = .ok i w := by simp [typeInfo, h]
theorem run_sizeOf {P : Program} {t : Nat} {i : TypeInfo} (h : P.info? t = some i) (w : World) : (sizeOf t).run P w = .ok i.size w := by simp [sizeOf, run_typeInfo h]
theorem run_zeroValue {P : Program} {t : Nat} {i : TypeInfo} {z : Value} (h : P.info? t = some i) (hz : i.zero = some z) (w : World) : (zeroValue t).run P w = .ok z w := by simp [zeroValue, run_typeInfo h, hz]

theorem kind_agg {cx : Cx} {t : Nat} {ti : TI} {z : Value} (h : KindOk cx.P t ti z) (w : World) : (isAgg t).run cx.P w = .ok ti.isAgg w := by
  unfold KindOk at h
  unfold isAgg
  rw [Sem.run_bind]
  cases hk : ti.kind with
  | atom => rw [hk] at h; obtain ⟨⟨d, hd, h2⟩, _⟩ := h; rw [run_underlying hd]; cases d <;> simp_all [TI.isAgg]
  | ptr => rw [hk] at h; obtain ⟨⟨d, hd⟩, _⟩ := h; rw [run_underlying hd]; simp [TI.isAgg, hk]
  | iface => rw [hk] at h; obtain ⟨⟨d, hd⟩, _⟩ := h; rw [run_underlying hd]; simp [TI.isAgg, hk]
  | slice e => rw [hk] at h; obtain ⟨hd, _⟩ := h; rw [run_underlying hd]; simp [TI.isAgg, hk]
  | struct fs => rw [hk] at h; obtain ⟨⟨d, hd, _⟩, _⟩ := h; rw [run_underlying hd]; simp [TI.isAgg, hk]
  | arr n e => rw [hk] at h; obtain ⟨hd, _⟩ := h; rw [run_underlying hd]; simp [TI.isAgg, hk]

theorem kind_one {cx : Cx} {t : Nat} {ti : TI} {z : Value} (h : KindOk cx.P t ti z) (ha : ti.isAgg = false) : ti.size = 1 ∧ z.oneCell' = true := by
  unfold KindOk at h
  cases hk : ti.kind <;> rw [hk] at h <;> simp only [] at h <;> simp only [TI.isAgg, hk, Bool.true_eq_false] at ha
  all_goals exact ⟨h.2.2, h.2.1⟩

theorem add_add (a : Addr) (x y : Nat) (h : a.spot = none ∨ True) : ((a.add x).add y) = a.add (x + y) := by
  unfold Addr.add
  by_cases hx : x = 0
  · by_cases hy : y = 0
    · simp [hx, hy]
    · simp [hx, hy]
  · by_cases hy : y = 0
    · simp [hx, hy]
    · have : x + y ≠ 0 := by omega
      simp [hx, hy, this, Nat.add_assoc]

/-- Cells that are read one after the other. -/
theorem run_cells {P : Program} {w : World} {a : Addr} {n : Nat} {vs : List Value} (hl : vs.length = n) (h : ∀ (j : Nat) (v : Value), vs[j]? = some v → w.cell? (a.add j) = some v) : (loadCells a n).run P w = .ok vs.toArray w := by
  subst hl; exact run_loadCells_list w a vs h

/-- A variable of a type read where the cells say cs. -/
theorem load_ok {cx : Cx} (ok : CxOk cx) {G : Gh} {w : World} {t : Nat} {ti : TI} {a : Addr} {cs : List AV} {vs : List Value} {v : AV} (ht : cx.ty t = some ti) (hm : mk ti cs = some v) (hl : cs.length = ti.size)
    (hr : VRs G w cs vs) (hc : ∀ (j : Nat) (u : Value), vs[j]? = some u → w.cell? (a.add j) = some u ∧ u.oneCell' = true) : ∃ u, (loadVar t a).run cx.P w = .ok u w ∧ VR G w v u := by
  obtain ⟨i, z, hi, hs, _, hz, _, _, hk⟩ := ok.ty t ti ht
  unfold loadVar
  rw [Sem.run_bind, kind_agg hk]
  simp only [Result.andThen_ok]
  unfold mk at hm
  by_cases hg : ti.isAgg = true
  · rw [if_pos hg] at hm ⊢
    cases hm
    have := run_cells (P := cx.P) (w := w) (a := a) (n := ti.size) (vs := vs) (by rw [← hl]; exact hr.1.symm) (fun j u hu => (hc j u hu).1)
    refine ⟨.agg vs.toArray, ?_, .agg_of (by simpa using hr) (fun u hu => ?_)⟩
    · simp [run_sizeOf hi, hs, this]
    · obtain ⟨j, hj⟩ := List.getElem?_of_mem (by simpa using hu : u ∈ vs)
      exact (hc j u hj).2
  · have hg' : ti.isAgg = false := by simpa using hg
    rw [if_neg hg] at hm ⊢
    have h1 := (kind_one hk hg').1
    cases cs with
    | nil => simp at hm
    | cons c cs =>
      simp only [List.head?_cons, Option.some.injEq] at hm
      subst hm
      obtain ⟨u, vs', rfl, h2, _⟩ := hr.uncons
      have h3 := hc 0 u rfl
      refine ⟨u, ?_, h2⟩
      have : a.add 0 = a := by simp [Addr.add]
      rw [this] at h3
      simp [h3.1]

theorem loadT_ok {cx : Cx} (ok : CxOk cx) {G : Gh} {w : World} {S : St} (sr : SR G S w) {t : Nat} {p v : AV} {x : Value} (hp : VR G w p x) (h : loadT cx S t p = some v) : ∃ u, (Instr.loadAt t x).run cx.P w = .ok u w ∧ VR G w v u := by
  unfold loadT at h
  split at h
  · rename_i b off
    simp only [Option.bind_eq_some_iff] at h
    obtain ⟨ti, ht, cs, hcs, h⟩ := h
    split at h
    · rename_i hlen
      have hne : cs ≠ [] := by intro e; subst e; simp at hlen; omega
      obtain ⟨blk, vs, ty, hloc, hheap, hrel, hone⟩ := sr.blk b cs hcs hne
      cases hp with
      | loc hl hv =>
        rw [hloc] at hl; cases hl
        obtain rfl := hv blk rfl
        have := load_ok ok (a := ⟨blk, off, none⟩) ht h (by simp; omega) ((hrel.drop off).take ti.size) (fun j u hu => by
          rw [List.getElem?_take] at hu
          split at hu
          · rw [List.getElem?_drop] at hu
            have : (⟨blk, off, none⟩ : Addr).add j = ⟨blk, off + j, none⟩ := by unfold Addr.add; split <;> simp_all
            rw [this, cell_of_row w blk (off + j) vs ty (0, 0) hheap]
            exact ⟨by simpa using hu, hone u (List.mem_of_getElem? hu)⟩
          · cases hu)
        obtain ⟨u, h1, h2⟩ := this
        exact ⟨u, by simpa [Instr.loadAt, Instr.sureAddr] using h1, h2⟩
    · cases h
  · rename_i cs
    simp only [Option.bind_eq_some_iff] at h
    obtain ⟨ti, ht, h⟩ := h
    split at h
    · rename_i hlen
      cases hp with
      | @rp _ a u ha hr =>
        have := load_ok ok (a := a) (vs := (List.range ti.size).map u) ht h (by simp; omega) ⟨by simp; omega, fun i h1 h2 => by
            simp only [List.getElem_take, List.getElem_map, List.getElem_range]
            exact hr i (by simp at h1; omega)⟩ (fun j v hv => by
          simp only [List.getElem?_map, Option.map_eq_some_iff] at hv
          obtain ⟨k, hk, rfl⟩ := hv
          obtain ⟨hk1, hk2⟩ := List.getElem?_eq_some_iff.1 hk
          simp at hk1 hk2
          subst hk2
          have := ha j (by omega)
          exact ⟨this.1, this.2.2⟩)
        obtain ⟨v', h1, h2⟩ := this
        exact ⟨v', by simpa [Instr.loadAt, Instr.sureAddr] using h1, h2⟩
    · cases h
  · cases h

/-! ### The store -/
theorem cells_rel {G : Gh} {w : World} {a : AV} {v : Value} (h : VR G w a v) (hq : a.cells.all AV.isCell = true) : VRs G w a.cells v.cells.toList ∧ ∀ u ∈ v.cells.toList, u.oneCell' = true := by
  have single : ∀ {a : AV} {v : Value}, VR G w a v → v.oneCell' = true → VRs G w [a] [v] ∧ ∀ u ∈ [v], u.oneCell' = true := fun h h1 =>
    ⟨.cons h (VRs.nil G w), fun u hu => by rw [List.mem_singleton.1 hu]; exact h1⟩
  have cellsOf : ∀ {v : Value}, v.oneCell' = true → v.cells.toList = [v] := fun {v} h1 => by cases v <;> simp_all [Value.oneCell', Value.cells]
  cases h with
  | undef => simp [AV.cells, AV.isCell] at hq
  | tup => simp [AV.cells, AV.isCell] at hq
  | @agg cs vs hl h1 h =>
    have hv : (Value.agg vs.toArray).cells.toList = vs := by simp [Value.cells]
    rw [hv]
    refine ⟨⟨hl, h⟩, fun u hu => ?_⟩
    obtain ⟨i, hi⟩ := List.getElem?_of_mem hu
    obtain ⟨hi1, rfl⟩ := List.getElem?_eq_some_iff.1 hi
    exact h1 i (by omega) hi1
  | bool => exact single .bool rfl
  | int => exact single .int rfl
  | sl u hc hz ha h ho => exact single (.sl u hc hz ha h ho) rfl
  | row h hv => exact single (.row h hv) rfl
  | loc h hv => exact single (.loc h hv) rfl
  | rp u ha h => exact single (.rp u ha h) rfl
  | nilp => exact single .nilp rfl
  | fn hl h => exact single (.fn hl h) rfl
  | nilf => exact single .nilf rfl
  | iface h => exact single (.iface h) rfl
  | nili => exact single .nili rfl

theorem heap_lt {w : World} {b : Nat} {o : Obj} (h : w.heap[b]? = some o) : b < w.heap.size := (Array.getElem?_eq_some_iff.1 h).1

/-- A new block of the store. -/
theorem sr_push {G : Gh} {S : St} {w : World} (sr : SR G S w) {cs : List AV} {vs : Array Value} {t : TypeId} (hr : VRs G w cs vs.toList) (h1 : ∀ u ∈ vs.toList, u.oneCell' = true) :
    SR ⟨G.loc ++ [some w.heap.size], G.tok, G.out⟩ { S with σ := S.σ ++ [cs] } (w.alloc (.cells vs t)) ∧ Mv G w ⟨G.loc ++ [some w.heap.size], G.tok, G.out⟩ (w.alloc (.cells vs t)) := by
  have old := Old.alloc w (.cells vs t)
  have ge : Ge G w ⟨G.loc ++ [some w.heap.size], G.tok, G.out⟩ (w.alloc (.cells vs t)) := {
    cell := fun a u hc s => by
      refine ⟨old.cell hc, Nat.lt_of_lt_of_le s.1 old.size, ?_, s.2.2⟩
      intro hm
      rcases List.mem_append.1 hm with h | h
      · exact s.2.1 h
      · have := s.1; simp at h; omega
    loc := fun i o l => .inl (by rw [List.getElem?_append_left (List.getElem?_eq_some_iff.1 l).1]; exact l)
    tok := fun i v b k h => ⟨v, b, k, h, Nat.le_refl v, fun _ => ⟨rfl, rfl, fun n hb => old.Blk hb⟩⟩
    out := rfl }
  refine ⟨⟨by simp [sr.len], fun i c hi hne => ?_, fun i j b hi hj => ?_, sr.tk, sr.tnd, fun e he hm => ?_, fun e he => Nat.lt_of_lt_of_le (sr.tlt e he) old.size, fun b hb => ?_, fun e he => ⟨Nat.lt_of_lt_of_le (sr.od e he).1 old.size, fun hm => ?_, (sr.od e he).2.2⟩, fun e he => (sr.gl e he).mono ge⟩,
    ⟨ge, rfl, rfl, rfl, old.size, fun i hi _ _ => old.blk i hi, fun b hb => ?_, fun e he => .inl ⟨e, he, rfl⟩⟩⟩
  · rw [List.getElem?_append] at hi
    split at hi
    · obtain ⟨b, us, ty, g1, g2, g3, g4⟩ := sr.blk i c hi hne
      exact ⟨b, us, ty, by rw [List.getElem?_append_left (List.getElem?_eq_some_iff.1 g1).1]; exact g1, (old.blk b (heap_lt g2)).trans g2, g3.mono ge, g4⟩
    · rename_i hge
      have hi0 : i = S.σ.length := by
        have := (List.getElem?_eq_some_iff.1 hi).1
        simp at this; omega
      subst hi0
      simp at hi
      subst hi
      exact ⟨w.heap.size, vs, t, by rw [sr.len, List.getElem?_append_right (Nat.le_refl _)]; simp, heap_alloc_new w _, hr.mono ge, h1⟩
  · have lk : ∀ (i b : Nat), (G.loc ++ [some w.heap.size])[i]? = some (some b) → (i < G.loc.length ∧ G.loc[i]? = some (some b)) ∨ (i = G.loc.length ∧ b = w.heap.size) := by
      intro i b h
      rw [List.getElem?_append] at h
      split at h
      · exact .inl ⟨‹_›, h⟩
      · have := (List.getElem?_eq_some_iff.1 h).1
        have hi0 : i = G.loc.length := by simp at this; omega
        subst hi0
        simp at h
        exact .inr ⟨rfl, h.symm⟩
    rcases lk i b hi with ⟨a1, a2⟩ | ⟨a1, a2⟩ <;> rcases lk j b hj with ⟨c1, c2⟩ | ⟨c1, c2⟩
    · exact sr.nd i j b a2 c2
    · have := sr.llt b (List.mem_of_getElem? a2); omega
    · have := sr.llt b (List.mem_of_getElem? c2); omega
    · omega
  · rcases List.mem_append.1 hm with h | h
    · exact sr.dis e he h
    · have := sr.tlt e he; simp at h; omega
  · rcases List.mem_append.1 hb with h | h
    · exact Nat.lt_of_lt_of_le (sr.llt b h) old.size
    · simp at h; subst h; simp
  · rcases List.mem_append.1 hm with h | h
    · exact (sr.od e he).2.1 h
    · have := (sr.od e he).1; simp at h; omega
  · rcases List.mem_append.1 hb with h | h
    · exact .inl h
    · simp at h; exact .inr (by omega)

theorem loc_new {G : Gh} {S : St} {w w' : World} (sr : SR G S w) : VR ⟨G.loc ++ [some w.heap.size], G.tok, G.out⟩ w' (.loc S.σ.length 0) (.pointer (some ⟨w.heap.size, 0, none⟩)) :=
  .loc (o := some w.heap.size) (by rw [sr.len, List.getElem?_append_right (Nat.le_refl _)]; simp) (fun _ e => by cases e; rfl)

/-- A block of the store rewritten. -/
theorem sr_set {G : Gh} {S : St} {w : World} (sr : SR G S w) {i b : Nat} {old vs : Array Value} {t : TypeId} {cs : List AV} (hl : G.loc[i]? = some (some b)) (hb : w.heap[b]? = some (.cells old t (0, 0)))
    (hr : VRs G w cs vs.toList) (h1 : ∀ u ∈ vs.toList, u.oneCell' = true) : SR G { S with σ := S.σ.set i cs } (w.setRow b vs) ∧ Mv G w G (w.setRow b vs) := by
  have hmem : some b ∈ G.loc := List.mem_of_getElem? hl
  have ge : Ge G w G (w.setRow b vs) := {
    cell := fun a u hc s => by
      have hne : a.block ≠ b := fun e => s.2.1 (e ▸ hmem)
      exact ⟨(cell_setRow_other w b vs a hne).trans hc, by rw [size_setRow]; exact s.1, s.2⟩
    loc := fun i o l => .inl l
    tok := fun j v b' k h => ⟨v, b', k, h, Nat.le_refl v, fun _ => ⟨rfl, rfl, fun n ⟨c, ty, g1, g2⟩ => by
      have hne : b' ≠ b := fun e => sr.dis _ (List.mem_of_getElem? h) (by simpa [e] using hmem)
      exact ⟨c, ty, (setRow_other w b b' vs hne).trans g1, g2⟩⟩⟩
    out := rfl }
  refine ⟨⟨by simp [sr.len], fun j c hj hne => ?_, sr.nd, sr.tk, sr.tnd, sr.dis, fun e he => by rw [size_setRow]; exact sr.tlt e he, fun c hc => by rw [size_setRow]; exact sr.llt c hc, fun e he => ⟨by rw [size_setRow]; exact (sr.od e he).1, (sr.od e he).2⟩, fun e he => (sr.gl e he).mono ge⟩,
    ⟨ge, rfl, rfl, rfl, by rw [size_setRow]; exact Nat.le_refl _, fun j _ hn _ => setRow_other w b j vs (fun e => hn (e ▸ hmem)), fun _ h => .inl h, fun e he => .inl ⟨e, he, rfl⟩⟩⟩
  simp only [List.getElem?_set] at hj
  split at hj
  · rename_i hij
    subst hij
    split at hj
    · cases hj
      exact ⟨b, vs, t, hl, setRow_heap w b old vs t _ hb, hr.mono ge, h1⟩
    · cases hj
  · rename_i hij
    obtain ⟨b', us, ty, g1, g2, g3, g4⟩ := sr.blk j c hj hne
    have hbb : b' ≠ b := fun e => hij (sr.nd i j b hl (by rw [g1, e]))
    exact ⟨b', us, ty, g1, (setRow_other w b b' vs hbb).trans g2, g3.mono ge, g4⟩

theorem splice_rel {G : Gh} {w : World} {cs vs : List AV} {us xs : List Value} (h : VRs G w cs us) (h' : VRs G w vs xs) (off : Nat) :
    VRs G w (splice cs off vs) (us.take off ++ xs ++ us.drop (off + xs.length)) := by
  unfold splice
  rw [h'.1]
  exact ((h.take off).append h').append (h.drop _)

theorem storeT_ok {cx : Cx} (ok : CxOk cx) {G : Gh} {w : World} {S S' : St} (sr : SR G S w) {t : Nat} {p v : AV} {x y : Value} (hp : VR G w p x) (hv : VR G w v y) (h : storeT cx S t v p = some S') :
    ∃ w', (Instr.storeAt t x y).run cx.P w = .ok () w' ∧ SR G S' w' ∧ Mv G w G w' := by
  unfold storeT at h
  split at h
  · rename_i b off
    simp only [Option.bind_eq_some_iff] at h
    obtain ⟨ti, ht, cs, hcs, h⟩ := h
    split at h
    · rename_i hcond
      obtain ⟨hsz, hpos, hlen, hall⟩ := hcond
      cases h
      have hne : cs ≠ [] := by intro e; subst e; simp at hlen; omega
      obtain ⟨blk, vs, ty, hloc, hheap, hrel, hone⟩ := sr.blk b cs hcs hne
      obtain ⟨hvr, hv1⟩ := cells_rel hv hall
      obtain ⟨i, z, hi, hs, _, _, _, _, hk⟩ := ok.ty t ti ht
      cases hp with
      | loc hl hv' =>
        rw [hloc] at hl; cases hl
        obtain rfl := hv' blk rfl
        have hyl : y.cells.toList.length = ti.size := by rw [← hvr.1]; exact hsz
        have hys : y.cells.size = ti.size := by simpa using hyl
        have hcl : cs.length = vs.size := by have := hrel.1; simpa using this
        have run := run_storeCells_at cx.P blk off ty y.cells.toList 0 vs w hheap (by rw [hyl]; omega) hv1
        refine ⟨w.setRow blk (vs.toList.take off ++ y.cells.toList ++ vs.toList.drop (off + y.cells.toList.length)).toArray, ?_, ?_⟩
        · simp only [Instr.storeAt, Instr.sureAddr, Sem.run_bind, Sem.run_pure, Result.andThen_ok, storeVar, run_sizeOf hi, hs, hys, ne_eq, not_true_eq_false, if_false]
          simpa using run
        · refine sr_set sr hloc hheap ?_ ?_
          · simpa using splice_rel hrel hvr off
          · intro u hu
            simp only [List.mem_append, List.append_assoc] at hu
            rcases hu with hu | hu | hu
            · exact hone u (List.mem_of_mem_take hu)
            · exact hv1 u hu
            · exact hone u (List.mem_of_mem_drop hu)
    · cases h
  · cases h

/-! ### Operations that make memory -/
theorem alloc_ok {cx : Cx} (ok : CxOk cx) {G : Gh} {w : World} {S : St} (sr : SR G S w) {t : Nat} {ti : TI} (ht : cx.ty t = some ti) :
    ∃ u w' G', (Instr.alloc t true (.tuple #[])).run cx.P w = .ok u w' ∧ VR G' w' (.loc S.σ.length 0) u ∧ SR G' { S with σ := S.σ ++ [ti.zero] } w' ∧ Mv G w G' w' := by
  obtain ⟨i, z, hi, hs, _, hz, hc, hzs, hk⟩ := ok.ty t ti ht
  obtain ⟨h1, h2⟩ := absCells_rel G w _ _ hc
  have := sr_push sr (t := t) h1 h2
  refine ⟨_, _, _, ?_, loc_new sr, this.1, this.2⟩
  simp only [Instr.alloc, Sem.run_bind, run_zeroValue hi hz, Result.andThen_ok, newVar, newRow, run_newObj, Sem.run_pure]
  rfl

theorem box_ok {cx : Cx} {G : Gh} {w : World} {S : St} (sr : SR G S w) {t : Nat} {v : AV} {x : Value} (hv : VR G w v x) (hc : v.cells.all AV.isCell = true) :
    ∃ u w' G', (Instr.box t x).run cx.P w = .ok u w' ∧ VR G' w' (.loc S.σ.length 0) u ∧ SR G' { S with σ := S.σ ++ [v.cells] } w' ∧ Mv G w G' w' := by
  obtain ⟨h1, h2⟩ := cells_rel hv hc
  have := sr_push sr (t := t) h1 h2
  refine ⟨_, _, _, ?_, loc_new sr, this.1, this.2⟩
  simp only [Instr.box, Sem.run_bind, Result.andThen_ok, newVar, newRow, run_newObj, Sem.run_pure]
  rfl

/-! ### Structs -/
theorem fold_splice : ∀ (us : List Value) (cs : Array Value) (off k : Nat), off + k + us.length ≤ cs.size →
    (us.zipIdx k).foldl (fun c (x : Value × Nat) => c.setIfInBounds (off + x.2) x.1) cs = (cs.toList.take (off + k) ++ us ++ cs.toList.drop (off + k + us.length)).toArray
  | [], cs, off, k, h => by simp
  | u :: us, cs, off, k, h => by
    simp only [List.zipIdx_cons, List.foldl_cons]
    rw [fold_splice us (cs.setIfInBounds (off + k) u) off (k + 1) (by simp at h ⊢; omega)]
    congr 1
    have := list_seg_step cs.toList (off + k) u us (by simp at h ⊢; omega)
    simpa [Array.toList_setIfInBounds, Nat.add_assoc] using this

theorem fill_ok {G : Gh} {w : World} {place place' : Nat → Option (Nat × Nat)} (hpl : ∀ i p, place i = some p → place' i = some p) : ∀ (ps : List (Nat × AV)) (qs : List (Nat × Value)) (cs cs' : List AV) (us : Array Value),
    qs.map (·.1) = ps.map (·.1) → VRs G w (ps.map (·.2)) (qs.map (·.2)) → VRs G w cs us.toList → (∀ u ∈ us.toList, u.oneCell' = true) → fillT place cs ps = some cs' →
    ∃ us' : Array Value, Instr.fill place' us qs = some us' ∧ VRs G w cs' us'.toList ∧ ∀ u ∈ us'.toList, u.oneCell' = true
  | [], qs, cs, cs', us, hn, _, hr, h1, h => by
    cases h
    have : qs = [] := by simpa using hn
    subst this
    exact ⟨us, rfl, hr, h1⟩
  | (i, v) :: ps, qs, cs, cs', us, hn, hv, hr, h1, h => by
    cases qs with
    | nil => simp at hn
    | cons q qs =>
      obtain ⟨j, y⟩ := q
      simp only [List.map_cons, List.cons.injEq] at hn
      obtain ⟨rfl, hn⟩ := hn
      obtain ⟨y', ys, e, hy, hys⟩ := hv.uncons
      simp only [List.map_cons, List.cons.injEq] at e
      obtain ⟨rfl, rfl⟩ := e
      simp only [fillT, Option.bind_eq_some_iff] at h
      obtain ⟨⟨off, size⟩, hp, h⟩ := h
      split at h
      · rename_i hc
        obtain ⟨c1, c2, c3⟩ := hc
        obtain ⟨g1, g2⟩ := cells_rel hy c3
        have hsz : y.cells.size = size := by have := g1.1; simp at this; omega
        have hlen : cs.length = us.size := by have := hr.1; simpa using this
        simp only at c1 c2
        have step : y.cells.zipIdx.foldl (fun c (x : Value × Nat) => c.setIfInBounds (off + x.2) x.1) us = (us.toList.take off ++ y.cells.toList ++ us.toList.drop (off + y.cells.toList.length)).toArray := by
          have := fold_splice y.cells.toList us off 0 (by simp; omega)
          simp only [Nat.add_zero] at this
          rw [← this, ← Array.foldl_toList]
          simp [Array.toList_zipIdx]
        have hr' : VRs G w (splice cs off v.cells) (us.toList.take off ++ y.cells.toList ++ us.toList.drop (off + y.cells.toList.length)).toArray.toList := by
          simpa using splice_rel hr g1 off
        obtain ⟨us', e1, e2, e3⟩ := fill_ok hpl ps qs _ cs' _ hn hys hr' (fun u hu => by
          simp only [List.mem_append, List.append_assoc] at hu
          rcases hu with hu | hu | hu
          · exact h1 u (List.mem_of_mem_take hu)
          · exact g2 u hu
          · exact h1 u (List.mem_of_mem_drop hu)) h
        refine ⟨us', ?_, e2, e3⟩
        unfold Instr.fill
        rw [hpl _ _ hp]
        have t1 : y.cells.size = size := hsz
        have t2 : ¬ (off + y.cells.size > us.size) := by omega
        simp only [t1, ne_eq, not_true_eq_false, decide_false, Bool.false_or, decide_eq_true_eq]
        rw [if_neg (by omega)]
        rw [step]
        exact e1
      · cases h

theorem mapM_get {α β : Type} {f : α → Option β} : ∀ {l : List α} {r : List β}, l.mapM f = some r → ∀ (i : Nat) (x : α), l[i]? = some x → ∃ y, f x = some y ∧ r[i]? = some y
  | [], r, h, i, x, hx => by simp at hx
  | a :: l, r, h, i, x, hx => by
    simp only [List.mapM_cons, Option.bind_eq_bind, Option.pure_def, Option.bind_eq_some_iff] at h
    obtain ⟨y, hy, ys, hys, h⟩ := h
    cases h
    cases i with
    | zero => simp at hx; subst hx; exact ⟨y, hy, rfl⟩
    | succ i => simpa using mapM_get hys i x (by simpa using hx)

theorem fieldOf_ok {cx : Cx} (ok : CxOk cx) {t : Nat} {ti : TI} {z : Value} (hk : KindOk cx.P t ti z) {i off : Nat} {tf : TI} (h : fieldOf cx ti i = some (off, tf)) :
    ∃ fields places f i' z', cx.P.underlying t = some (.struct fields) ∧ fields.toList.mapM (fun f => (cx.P.info? f.type).map fun i => (f.offset, i.size)) = some places ∧ fields.toList[i]? = some f ∧ f.offset = off ∧ cx.ty f.type = some tf ∧
      places[i]? = some (off, tf.size) ∧ cx.P.info? f.type = some i' ∧ i'.size = tf.size ∧ KindOk cx.P f.type tf z' := by
  unfold fieldOf at h
  split at h
  · rename_i fs hfs
    unfold KindOk at hk
    rw [hfs] at hk
    obtain ⟨⟨fields, hu, rfl, places, hp⟩, _⟩ := hk
    simp only [Option.bind_eq_some_iff, Option.map_eq_some_iff] at h
    obtain ⟨⟨o, ft⟩, hf, t', ht', e⟩ := h
    cases e
    simp only [List.getElem?_map, Option.map_eq_some_iff] at hf
    obtain ⟨f, hf, e⟩ := hf
    cases e
    obtain ⟨i', z', hi', hs, _, _, _, _, hk'⟩ := ok.ty _ _ ht'
    obtain ⟨y, hy, hyi⟩ := mapM_get hp i f hf
    rw [hi'] at hy
    simp at hy
    subst hy
    exact ⟨fields, places, f, i', z', hu, hp, hf, rfl, ht', by rw [hyi, hs], hi', hs, hk'⟩
  · cases h

theorem buildT_ok {cx : Cx} (ok : CxOk cx) {G : Gh} {w : World} {t : Nat} {ps : List (Nat × AV)} {qs : List (Nat × Value)} {v : AV} (hn : qs.map (·.1) = ps.map (·.1)) (hv : VRs G w (ps.map (·.2)) (qs.map (·.2)))
    (h : buildT cx t ps = some v) : ∃ u, (Instr.build t qs.toArray).run cx.P w = .ok u w ∧ VR G w v u := by
  unfold buildT at h
  simp only [Option.bind_eq_some_iff] at h
  obtain ⟨ti, ht, h⟩ := h
  obtain ⟨i, z, hi, hs, _, hz, hc, hzs, hk⟩ := ok.ty t ti ht
  obtain ⟨r1, r2⟩ := absCells_rel G w _ _ hc
  split at h
  · rename_i fs hfs
    obtain ⟨cs, hf, rfl⟩ := Option.map_eq_some_iff.1 h
    have hk0 := hk
    unfold KindOk at hk
    rw [hfs] at hk
    obtain ⟨⟨fields, hu, rfl, places, hp⟩, _⟩ := hk
    obtain ⟨us, e1, e2, e3⟩ := fill_ok (place' := (places.toArray[·]?)) (fun i p hip => by
      obtain ⟨⟨o, tf⟩, h1, h2⟩ := Option.map_eq_some_iff.1 hip
      obtain ⟨_, places', f, _, _, hu', hp', _, _, _, hpi, _, _, _⟩ := fieldOf_ok ok hk0 h1
      rw [hu] at hu'; cases hu'
      rw [hp] at hp'; cases hp'
      subst h2
      simpa using hpi) ps qs _ cs z.cells hn hv r1 r2 hf
    refine ⟨.agg us, run_build w t qs.toArray us ?_, .agg_of e2 e3⟩
    unfold Program.built
    simp only [hi, hu, hz, hp]
    simpa using e1
  · rename_i n e he
    simp only [Option.bind_eq_some_iff, Option.map_eq_some_iff] at h
    obtain ⟨te, hte, cs, hf, rfl⟩ := h
    obtain ⟨ie, _, hie, hse, _, _, _, _, _⟩ := ok.ty e te hte
    unfold KindOk at hk
    rw [he] at hk
    obtain ⟨hu, _⟩ := hk
    obtain ⟨us, e1, e2, e3⟩ := fill_ok (place' := fun i => some (i * te.size, te.size)) (fun i p h => h) ps qs _ cs z.cells hn hv r1 r2 hf
    refine ⟨.agg us, run_build w t qs.toArray us ?_, .agg_of e2 e3⟩
    unfold Program.built
    simp only [hi, hu, hz, hie, hse]
    simpa using e1
  · cases h

/-! ### Slices -/
theorem flatten_get : ∀ (es : List (List AV)) (sz : Nat), (∀ e ∈ es, e.length = sz) → ∀ i j, (hi : i < es.length) → j < sz → es.flatten[i * sz + j]? = es[i][j]?
  | [], sz, hz, i, j, hi, hj => by simp at hi
  | e :: es, sz, hz, i, j, hi, hj => by
    have he := hz e (by simp)
    simp only [List.flatten_cons]
    cases i with
    | zero => simp only [Nat.zero_mul, Nat.zero_add, List.getElem_cons_zero]; rw [List.getElem?_append_left (by omega)]
    | succ i =>
      rw [List.getElem?_append_right (by rw [he, Nat.succ_mul]; omega), he]
      have := flatten_get es sz (fun e h => hz e (by simp [h])) i j (by simpa using hi) hj
      rw [show (i + 1) * sz + j - sz = i * sz + j by rw [Nat.succ_mul]; omega]
      simpa using this

theorem flatten_length : ∀ (es : List (List AV)) (sz : Nat), (∀ e ∈ es, e.length = sz) → es.flatten.length = es.length * sz
  | [], sz, _ => by simp
  | e :: es, sz, hz => by
    simp only [List.flatten_cons, List.length_append, List.length_cons, Nat.succ_mul]
    rw [flatten_length es sz (fun e h => hz e (by simp [h])), hz e (by simp)]; omega

/-- A slice whose elements lie in cells one after the other. -/
theorem sl_of_cells {G : Gh} {w : World} {es : List (List AV)} {sz cap : Nat} {A : Option Addr} {o : Own} {us : List Value} (hz : ∀ e ∈ es, e.length = sz) (hc : es.length ≤ cap) (hr : VRs G w es.flatten us)
    (ha : ∀ k, k < es.length * sz → ∃ a, A = some a ∧ Cell G w (a.add k) (us.getD k Go.undef)) (ho : OwnOk G w A es.length sz cap o) : VR G w (.sl es o) (.slice A es.length cap) := by
  refine .sl (sz := sz) (fun i j => us.getD (i * sz + j) Go.undef) hc (fun i h => hz _ (List.getElem_mem h)) (fun i j hi hj => ?_) (fun i hi j hj => ?_) ho
  · have : i * sz + j < es.length * sz := by
      have : (i + 1) * sz ≤ es.length * sz := Nat.mul_le_mul_right _ hi
      rw [Nat.succ_mul] at this; omega
    exact ha _ this
  · have hj' : j < sz := by rw [← hz _ (List.getElem_mem hi)]; exact hj
    have e := flatten_get es sz hz i j hi hj'
    rw [List.getElem?_eq_getElem hj] at e
    obtain ⟨u, hu, hv⟩ := hr.get e
    simp only [List.getD, hu, Option.getD_some]
    exact hv

theorem add_at (b k : Nat) : (⟨b, 0, none⟩ : Addr).add k = ⟨b, k, none⟩ := by unfold Addr.add; split <;> simp_all

/-- A slice that fills a new block. -/
theorem sl_new {G : Gh} {S : St} {w : World} (sr : SR G S w) {es : List (List AV)} {sz cap : Nat} {us : Array Value} {t : TypeId} {o : Own} (hz : ∀ e ∈ es, e.length = sz) (hc : es.length ≤ cap)
    (hr : VRs G w es.flatten (us.toList.take (es.length * sz))) (h1 : ∀ u ∈ us.toList.take (es.length * sz), u.oneCell' = true)
    (ho : OwnOk G (w.alloc (.cells us t)) (some ⟨w.heap.size, 0, none⟩) es.length sz cap o) : VR G (w.alloc (.cells us t)) (.sl es o) (.slice (some ⟨w.heap.size, 0, none⟩) es.length cap) := by
  refine sl_of_cells hz hc (hr.mono ((Old.alloc w _).ge G)) (fun k hk => ⟨_, rfl, ?_⟩) ho
  have hl : (us.toList.take (es.length * sz)).length = es.length * sz := by rw [← hr.1, flatten_length es sz hz]
  rw [add_at]
  have hk' : k < (us.toList.take (es.length * sz)).length := by omega
  have hget : (us.toList.take (es.length * sz))[k]? = some (us.toList.take (es.length * sz))[k] := List.getElem?_eq_getElem hk'
  refine ⟨?_, ⟨by simp, fun hm => ?_, fun e he hb => ?_, fun e he hb => ?_⟩, ?_⟩
  · rw [cell_of_row _ _ _ us t (0, 0) (heap_alloc_new w _)]
    simp only [List.getD, hget, Option.getD_some]
    have := hget
    rw [List.getElem?_take, if_pos hk] at this
    rw [← this]
    simp
  · have := sr.llt _ hm; simp at this
  · have := sr.tlt e he; simp only at hb; omega
  · have := (sr.od e he).1; simp only at hb; omega
  · simp only [List.getD, hget, Option.getD_some]; exact h1 _ (List.getElem_mem hk')

theorem setElems_ok {sz : Nat} : ∀ (ps : List (Nat × AV)) (es es' : List (List AV)), (∀ e ∈ es, e.length = sz) → setElems sz es ps = some es' →
    es'.length = es.length ∧ (∀ e ∈ es', e.length = sz) ∧ fillT (fun i => some (i * sz, sz)) es.flatten ps = some es'.flatten
  | [], es, es', hz, h => by cases h; exact ⟨rfl, hz, rfl⟩
  | (i, v) :: ps, es, es', hz, h => by
    unfold setElems at h
    split at h
    · rename_i hc
      obtain ⟨c1, c2, c3⟩ := hc
      have hz' : ∀ e ∈ es.set i v.cells, e.length = sz := by
        intro e he
        rcases List.mem_or_eq_of_mem_set he with he | he
        · exact hz e he
        · rw [he]; exact c1
      obtain ⟨h1, h2, h3⟩ := setElems_ok ps _ es' hz' h
      refine ⟨by simpa using h1, h2, ?_⟩
      unfold fillT
      have hfl := flatten_length es sz hz
      have hle : i * sz + sz ≤ es.flatten.length := by
        rw [hfl]
        have : (i + 1) * sz ≤ es.length * sz := Nat.mul_le_mul_right _ c2
        rw [Nat.succ_mul] at this; exact this
      simp only [Option.bind_some, c1, hle, c3, and_self, if_true]
      rw [← h3]
      congr 1
      clear h h1 h2 h3 hz' c3 hle hfl
      unfold splice
      rw [c1]
      induction es generalizing i with
      | nil => simp at c2
      | cons e es ih =>
        have he := hz e (by simp)
        cases i with
        | zero =>
          simp only [List.set_cons_zero, List.flatten_cons, Nat.zero_mul, List.take_zero, Nat.zero_add, List.nil_append]
          rw [List.drop_append_of_le_length (by omega), List.drop_of_length_le (by omega)]; simp
        | succ i =>
          simp only [List.set_cons_succ, List.flatten_cons]
          have := ih i (fun e h => hz e (by simp [h])) (by simpa using c2)
          rw [← this, Nat.succ_mul]
          have e1 : i * sz + sz = e.length + i * sz := by omega
          have e2 : i * sz + sz + sz = e.length + (i * sz + sz) := by omega
          rw [e2, e1, List.take_length_add_append, List.drop_length_add_append]
          simp
    · cases h

theorem replicate_flatten (z : List AV) : ∀ n, (List.replicate n z).flatten.length = n * z.length
  | 0 => by simp
  | n + 1 => by
    have := replicate_flatten z n
    simp only [List.replicate_succ, List.flatten_cons, List.length_append, this, Nat.succ_mul]; omega

theorem zeros_rel {G : Gh} {w : World} {cs : List AV} {z : Array Value} (h : VRs G w cs z.toList) (h1 : ∀ u ∈ z.toList, u.oneCell' = true) (n : Nat) :
    VRs G w (List.replicate n cs).flatten ((Array.range (n * z.size)).map (z[· % z.size]!)).toList ∧ ∀ u ∈ ((Array.range (n * z.size)).map (z[· % z.size]!)).toList, u.oneCell' = true := by
  have hlen : cs.length = z.size := by have := h.1; simpa using this
  refine ⟨⟨by simp [hlen], fun k a b => ?_⟩, fun u hu => ?_⟩
  · simp only [Array.toList_map, Array.toList_range, List.getElem_map, List.getElem_range]
    have hk : k < n * z.size := by simpa using b
    have hpos : 0 < z.size := Nat.pos_of_ne_zero (fun e => by rw [e] at hk; simp at hk)
    have hm := Nat.mod_lt k hpos
    have hd : k / z.size < n := Nat.div_lt_of_lt_mul (by rw [Nat.mul_comm]; exact hk)
    have hkk : k = (k / z.size) * z.size + k % z.size := by rw [Nat.mul_comm]; exact (Nat.div_add_mod k z.size).symm
    have e := flatten_get (List.replicate n cs) z.size (fun e he => by rw [List.eq_of_mem_replicate he]; exact hlen) (k / z.size) (k % z.size) (by simpa using hd) hm
    rw [← hkk] at e
    simp only [List.getElem_replicate] at e
    rw [List.getElem?_eq_getElem a, List.getElem?_eq_getElem (by omega)] at e
    rw [Option.some.inj e]
    have := h.2 (k % z.size) (by omega) (by simpa using hm)
    simpa [hm] using this
  · simp only [Array.toList_map, Array.toList_range, List.mem_map, List.mem_range] at hu
    obtain ⟨k, hk, rfl⟩ := hu
    have hpos : 0 < z.size := Nat.pos_of_ne_zero (fun e => by rw [e] at hk; simp at hk)
    have hm := Nat.mod_lt k hpos
    simp only [hm, getElem!_pos]
    exact h1 _ (by simp)

theorem buildSliceT_ok {cx : Cx} (ok : CxOk cx) {G : Gh} {w : World} {S : St} (sr : SR G S w) {t n : Nat} {ps : List (Nat × AV)} {qs : List (Nat × Value)} {v : AV} (hn : qs.map (·.1) = ps.map (·.1))
    (hv : VRs G w (ps.map (·.2)) (qs.map (·.2))) (h : buildSliceT cx t n ps = some v) : ∃ u w', (Instr.buildSlice t n qs.toArray).run cx.P w = .ok u w' ∧ VR G w' v u ∧ Old w w' := by
  unfold buildSliceT at h
  simp only [Option.bind_eq_some_iff] at h
  obtain ⟨ti, ht, h⟩ := h
  obtain ⟨i, z, hi, hs, _, hz, hc, hzs, hk⟩ := ok.ty t ti ht
  split at h
  · rename_i e he
    unfold KindOk at hk
    rw [he] at hk
    obtain ⟨hu, _⟩ := hk
    simp only [Option.bind_eq_some_iff] at h
    obtain ⟨te, hte, h⟩ := h
    obtain ⟨ie, ze, hie, hse, _, hze, hce, hzse, hke⟩ := ok.ty e te hte
    split at h
    · rename_i hcond
      obtain ⟨c1, c2, c3⟩ := hcond
      obtain ⟨es, hes, rfl⟩ := Option.map_eq_some_iff.1 h
      obtain ⟨r1, r2⟩ := absCells_rel G w _ _ hce
      have hzl : te.zero.length = te.size := by have := r1.1; simp at this; omega
      obtain ⟨l1, l2, l3⟩ := setElems_ok ps _ es (fun x hx => by rw [List.eq_of_mem_replicate hx]; exact hzl) hes
      obtain ⟨z1, z2⟩ := zeros_rel r1 r2 n
      obtain ⟨us, e1, e2, e3⟩ := fill_ok (place' := fun i => some (i * te.size, te.size)) (fun i p h => h) ps qs _ _ _ hn hv z1 z2 l3
      have hlen : es.length = n := by simpa using l1
      have hne : ¬ (n * te.size > 2 ^ 24) := by omega
      refine ⟨.slice (some ⟨w.heap.size, 0, none⟩) n n, w.alloc (.cells us e), ?_, ?_, Old.alloc w _⟩
      · simp only [Instr.buildSlice, Sem.run_bind, run_underlying hu, Result.andThen_ok, run_sizeOf hie, hse]
        rw [if_neg hne]
        by_cases h0 : n * te.size = 0
        · simp only [h0, if_true, Sem.run_pure, Result.andThen_ok]
          rw [hzse] at e1
          have e0 : ∀ f : Nat → Value, (Array.range (n * te.size)).map f = #[] := fun f => by rw [h0]; simp
          rw [e0] at e1
          rw [h0] at e0
          simp only [e0]
          rw [e1]
          simp only [newRow, Sem.run_bind, run_newObj, Result.andThen_ok, Sem.run_pure]
          rfl
        · simp only [h0, if_false, Sem.run_bind, run_zeroValue hie hze, Result.andThen_ok, Sem.run_pure]
          rw [hzse] at e1
          rw [hzse]
          rw [e1]
          simp only [newRow, Sem.run_bind, run_newObj, Result.andThen_ok, Sem.run_pure]
          rfl
      · have hul : us.size = n * te.size := by
          have := e2.1
          rw [flatten_length es te.size l2, hlen] at this
          simpa using this.symm
        have := sl_new sr (es := es) (sz := te.size) (cap := n) (us := us) (t := e) (o := .full) l2 (by omega) (by rw [List.take_of_length_le (by simp [hul, hlen])]; exact e2) (fun u hu => e3 u (List.mem_of_mem_take hu)) (by simp [OwnOk, hlen])
        rw [hlen] at this
        exact this
    · cases h
  · cases h

end M
end Go.Proofs.YthclcchnodjjpaaGreatDoor
