/- SOUNDNESS 5: append, make and the other built-in functions. -/
import Derived.Test.YtgkdehfbeejlfaaMc5
set_option linter.unusedVariables false
set_option linter.unusedSimpArgs false
namespace Go.Proofs.Ytgkdehfbeejlfaa
namespace M

def newTok {α : Type} (T : List α) (i : Nat) (e : α) : List α := if i < T.length then T.set i e else T ++ [e]

theorem newTok_same {α : Type} {T : List α} {i : Nat} {e : α} (h : i ≤ T.length) : (newTok T i e)[i]? = some e := by
  unfold newTok
  split
  · simp [*]
  · have : i = T.length := by omega
    subst this
    simp

theorem newTok_other {α : Type} {T : List α} {i j : Nat} {e : α} (h : i ≤ T.length) (hj : j ≠ i) : (newTok T i e)[j]? = T[j]? := by
  unfold newTok
  split
  · rw [List.getElem?_set_ne (Ne.symm hj)]
  · have : i = T.length := by omega
    subst this
    rw [List.getElem?_append]
    split
    · rfl
    · rw [List.getElem?_eq_none (by simp; omega), List.getElem?_eq_none (by omega)]

theorem newTok_map {α β : Type} (f : α → β) (T : List α) (i : Nat) (e : α) : (newTok T i e).map f = newTok (T.map f) i (f e) := by
  unfold newTok
  simp only [List.length_map]
  split
  · simp [List.map_set]
  · simp

theorem mem_newTok {α : Type} {T : List α} {i : Nat} {e x : α} (h : i ≤ T.length) (hx : x ∈ newTok T i e) : x = e ∨ ∃ j, j ≠ i ∧ T[j]? = some x := by
  obtain ⟨j, hj⟩ := List.getElem?_of_mem hx
  by_cases hji : j = i
  · subst hji; rw [newTok_same h] at hj; exact .inl (Option.some.inj hj).symm
  · rw [newTok_other h hji] at hj; exact .inr ⟨j, hji, hj⟩

/-- A token comes, or goes on. -/
theorem sr_tok {G : Gh} {S : St} {w w' : World} (sr : SR G S w) {i v' b' k' : Nat} (hi : i ≤ G.tok.length) (hv : ∀ v b k, G.tok[i]? = some (v, b, k) → v < v')
    (hb : b' = w.heap.size ∨ ∃ v k, G.tok[i]? = some (v, b', k)) (hlt : b' < w'.heap.size) (hcell : ∀ (a : Addr) (u : Value), w.cell? a = some u → Stab G w a → w'.cell? a = some u)
    (hst : ∀ a, Stab G w a → a.block = b' → a.off < k') (os : w'.os = w.os) (tape : w'.tape = w.tape) (output : w'.output = w.output) (size : w.heap.size ≤ w'.heap.size)
    (hblk : ∀ j, j < w.heap.size → j ≠ b' → w'.heap[j]? = w.heap[j]?) :
    SR ⟨G.loc, newTok G.tok i (v', b', k'), G.out⟩ { S with tk := newTok S.tk i v' } w' ∧ Mv G w ⟨G.loc, newTok G.tok i (v', b', k'), G.out⟩ w' := by
  have other : ∀ (j v b k : Nat), j ≠ i → G.tok[j]? = some (v, b, k) → b ≠ b' := by
    intro j v b k hj ht e
    rcases hb with hb | ⟨v0, k0, hb⟩
    · have := sr.tlt _ (List.mem_of_getElem? ht); simp only at this; omega
    · subst e; exact hj (sr.tnd j i v b k v0 k0 ht hb)
  have nloc : some b' ∉ G.loc := by
    intro hm
    rcases hb with hb | ⟨v0, k0, hb⟩
    · have := sr.llt _ hm; omega
    · exact sr.dis _ (List.mem_of_getElem? hb) hm
  have blkk : ∀ b n, b < w.heap.size → b ≠ b' → Blk w b n → Blk w' b n := fun b n h1 h2 ⟨cs, t, h3, h4⟩ => ⟨cs, t, (hblk b h1 h2).trans h3, h4⟩
  have ge : Ge G w ⟨G.loc, newTok G.tok i (v', b', k'), G.out⟩ w' := {
    cell := fun a u hc s => by
      refine ⟨hcell a u hc s, Nat.lt_of_lt_of_le s.1 size, s.2.1, fun e he hbe => ?_, s.2.2.2⟩
      rcases mem_newTok hi he with rfl | ⟨j, hj, ht⟩
      · exact hst a s hbe.symm
      · exact s.2.2.1 e (List.mem_of_getElem? ht) hbe
    loc := fun j o l => .inl l
    tok := fun j v b k ht => by
      by_cases hji : j = i
      · subst hji
        exact ⟨v', b', k', newTok_same hi, Nat.le_of_lt (hv v b k ht), fun e => by have := hv v b k ht; omega⟩
      · exact ⟨v, b, k, (newTok_other hi hji).trans ht, Nat.le_refl v, fun _ => ⟨rfl, rfl, fun n hbn => blkk b n (sr.tlt _ (List.mem_of_getElem? ht)) (other j v b k hji ht) hbn⟩⟩
    out := rfl }
  refine ⟨⟨sr.len, fun j cs hj hne => ?_, sr.nd, ?_, fun j1 j2 v1 b k1 v2 k2 h1 h2 => ?_, fun e he hm => ?_, fun e he => ?_, fun b hm => Nat.lt_of_lt_of_le (sr.llt b hm) size, fun e he => ⟨Nat.lt_of_lt_of_le (sr.od e he).1 size, (sr.od e he).2.1, fun e' he' => ?_⟩⟩,
    ⟨ge, os, tape, output, size, fun j hj hl ht => ?_, fun _ h => .inl h, fun e he => ?_⟩⟩
  · obtain ⟨b, vs, t, h1, h2, h3, h4⟩ := sr.blk j cs hj hne
    have hbb : b ≠ b' := fun e => nloc (e ▸ List.mem_of_getElem? h1)
    exact ⟨b, vs, t, h1, (hblk b (heap_lt h2) hbb).trans h2, h3.mono ge, h4⟩
  · simp only [newTok_map, sr.tk]
  · by_cases e1 : j1 = i <;> by_cases e2 : j2 = i
    · omega
    · subst e1
      rw [newTok_same hi] at h1
      rw [newTok_other hi e2] at h2
      cases h1
      exact absurd rfl (other j2 v2 _ k2 e2 h2)
    · subst e2
      rw [newTok_same hi] at h2
      rw [newTok_other hi e1] at h1
      cases h2
      exact absurd rfl (other j1 v1 _ k1 e1 h1)
    · rw [newTok_other hi e1] at h1
      rw [newTok_other hi e2] at h2
      exact sr.tnd j1 j2 v1 b k1 v2 k2 h1 h2
  · rcases mem_newTok hi he with rfl | ⟨j, hj, ht⟩
    · exact nloc hm
    · exact sr.dis e (List.mem_of_getElem? ht) hm
  · rcases mem_newTok hi he with rfl | ⟨j, hj, ht⟩
    · exact hlt
    · exact Nat.lt_of_lt_of_le (sr.tlt e (List.mem_of_getElem? ht)) size
  · rcases mem_newTok hi he' with rfl | ⟨j, hj, ht⟩
    · rcases hb with hb | ⟨v0, k0, hb⟩
      · have := (sr.od e he).1; simp only; omega
      · exact (sr.od e he).2.2 (v0, b', k0) (List.mem_of_getElem? hb)
    · exact (sr.od e he).2.2 _ (List.mem_of_getElem? ht)
  · refine hblk j hj (fun e => ?_)
    rcases hb with hb | ⟨v0, k0, hb⟩
    · omega
    · exact ht _ (List.mem_of_getElem? hb) e.symm
  · rcases mem_newTok hi he with rfl | ⟨j, hj, ht⟩
    · rcases hb with hb | ⟨v0, k0, hb⟩
      · exact .inr (by simp only; omega)
      · exact .inl ⟨_, List.mem_of_getElem? hb, rfl⟩
    · exact .inl ⟨e, List.mem_of_getElem? ht, rfl⟩

/-- The cells of a slice. -/
theorem sl_cells {G : Gh} {w : World} {es : List (List AV)} {o : Own} {x : Value} {sz : Nat} (h : VR G w (.sl es o) x) (hz : ∀ e ∈ es, e.length = sz) (hpos : 0 < sz) :
    ∃ A cap us, x = .slice A es.length cap ∧ es.length ≤ cap ∧ us.length = es.length * sz ∧ VRs G w es.flatten us ∧ (∀ (k : Nat) (v : Value), us[k]? = some v → ∃ a, A = some a ∧ Cell G w (a.add k) v) ∧ (es ≠ [] → OwnOk G w A es.length sz cap o) ∧ (o = .full → cap = es.length) := by
  cases h with
  | @sl _ _ A cap sz' u hc hzz ha hr ho =>
    refine ⟨A, cap, (List.range (es.length * sz)).map fun k => u (k / sz) (k % sz), rfl, hc, by simp, ?_, ?_, ?_, ?_⟩
    · have hfl := flatten_length es sz hz
      refine ⟨by simp [hfl], fun k h1 h2 => ?_⟩
      simp only [List.getElem_map, List.getElem_range]
      have hk : k < es.length * sz := by rw [← hfl]; exact h1
      have hm := Nat.mod_lt k hpos
      have hd : k / sz < es.length := Nat.div_lt_of_lt_mul (by rw [Nat.mul_comm]; exact hk)
      have hkk : k = (k / sz) * sz + k % sz := by rw [Nat.mul_comm]; exact (Nat.div_add_mod k sz).symm
      have e := flatten_get es sz hz (k / sz) (k % sz) hd hm
      rw [← hkk] at e
      have hl : k % sz < es[k / sz].length := by rw [hz _ (List.getElem_mem hd)]; exact hm
      rw [List.getElem?_eq_getElem h1, List.getElem?_eq_getElem hl] at e
      rw [Option.some.inj e]
      exact hr _ hd _ hl
    · intro k v hk
      simp only [List.getElem?_map, Option.map_eq_some_iff] at hk
      obtain ⟨k', hk', rfl⟩ := hk
      obtain ⟨h1, h2⟩ := List.getElem?_eq_some_iff.1 hk'
      simp at h1 h2
      subst h2
      have hm := Nat.mod_lt k hpos
      have hd : k / sz < es.length := Nat.div_lt_of_lt_mul (by rw [Nat.mul_comm]; exact h1)
      have hsz : sz' = sz := by rw [← hzz _ hd]; exact hz _ (List.getElem_mem hd)
      obtain ⟨a, e, c⟩ := ha (k / sz) (k % sz) hd (by omega)
      refine ⟨a, e, ?_⟩
      have hkk : (k / sz) * sz' + k % sz = k := by rw [hsz, Nat.mul_comm]; exact Nat.div_add_mod k sz
      rw [hkk] at c
      exact c
    · intro hne
      have h0 : 0 < es.length := by cases es <;> simp_all
      have hsz : sz' = sz := by rw [← hzz _ h0]; exact hz _ (List.getElem_mem h0)
      rw [← hsz]; exact ho
    · intro e; subst e; exact ho

theorem run_room {P : Program} (w : World) (t ty e : TypeId) (i : TypeInfo) (ht : P.underlying t = some (.slice e)) (hi : P.info? e = some i)
    (g sLen sCap tag : Nat) (cur : Array Value) (hg : w.heap[g]? = some (.cells cur tag (0, 0)))
    (a : Addr) (m c : Nat) (news : List Value) (hl : news.length = m * i.size) (hnews : ∀ (j : Nat) (u : Value), news[j]? = some u → w.cell? (a.add j) = some u) (h1 : ∀ u ∈ news, u.oneCell' = true)
    (hroom : sLen + m ≤ sCap) (hfit : sLen * i.size + news.length ≤ cur.size) :
    (Builtin.append_ #[t, t] ty #[.slice (some ⟨g, 0, none⟩) sLen sCap, .slice (some a) m c]).run P w =
      .ok (.slice (some ⟨g, 0, none⟩) (sLen + m) sCap) (w.setRow g (cur.toList.take (sLen * i.size) ++ news ++ cur.toList.drop (sLen * i.size + news.length)).toArray) := by
  have hf := run_firstCells_some (P := P) w i.size m a m c news hl hnews
  have hst := run_storeCells_at P g (sLen * i.size) tag news 0 cur w hg (by simpa using hfit) h1
  simp only [Nat.add_zero] at hst
  simp [Builtin.append_, run_underlying ht, sizeOf, typeInfo, hi, Builtin.lenOf, hroom, hf, Addr.add_lit, hst]

theorem run_append_none {P : Program} (w : World) (t ty e : TypeId) (i : TypeInfo) (ht : P.underlying t = some (.slice e)) (hi : P.info? e = some i) (A B : Option Addr) (n cap c : Nat) (hc : n ≤ cap) :
    (Builtin.append_ #[t, t] ty #[.slice A n cap, .slice B 0 c]).run P w = .ok (.slice A n cap) w := by
  cases A <;> cases B <;> simp [Builtin.append_, run_underlying ht, sizeOf, typeInfo, hi, Builtin.lenOf, hc, Builtin.firstCells, loadCells, loadCellsFrom, storeCells]

/-- What an append leaves where its row moved to a new block. -/
theorem grown_ok {G : Gh} {S : St} {w : World} (sr : SR G S w) {i v' sz cap : Nat} {e : TypeId} {es : List (List AV)} {us : List Value} {zs : Array Value} (hi : i ≤ G.tok.length) (hv : ∀ v b k, G.tok[i]? = some (v, b, k) → v < v')
    (hz : ∀ e ∈ es, e.length = sz) (hr : VRs G w es.flatten us) (h1 : ∀ u ∈ us, u.oneCell' = true) (hc : es.length ≤ cap) (hzs : zs.size = (cap - es.length) * sz) :
    let w' := w.drew.alloc (.cells (us.toArray ++ zs) e)
    let G' : Gh := ⟨G.loc, newTok G.tok i (v', w.heap.size, es.length * sz), G.out⟩
    SR G' { S with tk := newTok S.tk i v' } w' ∧ Mv G w G' w' ∧ VR G' w' (.sl es (.tok i v')) (.slice (some ⟨w.heap.size, 0, none⟩) es.length cap) := by
  intro w' G'
  have hul : us.length = es.length * sz := by rw [← hr.1, flatten_length es sz hz]
  have old : Old w w' := (Old.drew w).trans (Old.alloc _ _)
  have hnew : w'.heap[w.heap.size]? = some (.cells (us.toArray ++ zs) e (0, 0)) := heap_alloc_new w.drew _
  obtain ⟨h2, h3⟩ := sr_tok (w' := w') (k' := es.length * sz) sr hi hv (.inl rfl) (heap_lt hnew) (fun a u hc _ => old.cell hc) (fun a s e => by have := s.1; omega) rfl rfl rfl old.size (fun j hj _ => old.blk j hj)
  refine ⟨h2, h3, ?_⟩
  refine sl_of_cells hz hc (hr.mono h3.ge) (fun k hk => ⟨_, rfl, ?_⟩) ?_
  · rw [add_at]
    have hk' : k < us.length := by omega
    have hg : us.getD k Go.undef = us[k] := by simp [List.getD, List.getElem?_eq_getElem hk']
    rw [hg]
    refine ⟨?_, ⟨heap_lt hnew, fun hm => ?_, fun e he hb => ?_, fun e he hb => ?_⟩, h1 _ (List.getElem_mem hk')⟩
    · rw [cell_of_row _ _ _ _ _ _ hnew]
      simp [Array.getElem?_append, hk']
    · have := sr.llt _ hm; simp at this
    · rcases mem_newTok hi he with rfl | ⟨j, hj, ht⟩
      · exact hk
      · have := sr.tlt _ (List.mem_of_getElem? ht); simp only at hb; omega
    · have := (sr.od e he).1; simp only at hb; omega
  · refine ⟨v', w.heap.size, es.length * sz, newTok_same hi, Nat.le_refl _, fun _ => ⟨rfl, rfl, _, _, hnew, ?_⟩⟩
    simp only [Array.size_append, List.size_toArray, hul, hzs, ← Nat.add_mul]
    congr 1; omega

theorem appendT_ok {cx : Cx} (ok : CxOk cx) {G : Gh} {w : World} {S S' : St} (sr : SR G S w) {t ty : Nat} {s x v : AV} {p q : Value} (hs : VR G w s p) (hx : VR G w x q) (h : appendT cx S t s x = some (v, S')) :
    ∃ u w' G', (Builtin.append_ #[t, t] ty #[p, q]).run cx.P w = .ok u w' ∧ VR G' w' v u ∧ SR G' S' w' ∧ Mv G w G' w' := by
  unfold appendT at h
  obtain ⟨ti, ht, h⟩ := Option.bind_eq_some_iff.1 h
  obtain ⟨_, z0, _, _, _, _, _, _, hk⟩ := ok.ty t ti ht
  split at h
  · rename_i e he
    unfold KindOk at hk
    rw [he] at hk
    obtain ⟨hu, _⟩ := hk
    obtain ⟨te, hte, h⟩ := Option.bind_eq_some_iff.1 h
    obtain ⟨es, o, rfl⟩ : ∃ es o, s = .sl es o := by cases s <;> first | exact ⟨_, _, rfl⟩ | cases h
    obtain ⟨xs, o2, rfl⟩ : ∃ xs o2, x = .sl xs o2 := by cases x <;> first | exact ⟨_, _, rfl⟩ | cases h
    replace h : appendE te S es o xs = some (v, S') := h
    unfold appendE at h
    obtain ⟨ie, z, hie, hse, hby, hze, hce, hzse, hke⟩ := ok.ty e te hte
    by_cases hxs : xs = []
    · rw [if_pos hxs] at h
      cases h
      subst hxs
      have hs0 := hs
      cases hs with
      | @sl _ _ A cap sz u hcap hzz ha hr ho =>
        cases hx with
        | @sl _ _ B c sz2 u2 hc2 hzz2 ha2 hr2 ho2 =>
          exact ⟨_, w, G, run_append_none w t ty e ie hu hie A B es.length cap c hcap, hs0, sr, Mv.refl G w⟩
    · rw [if_neg hxs] at h
      by_cases hc : (es.length + xs.length) * te.bytes ≤ 70368744177664 ∧ 0 < te.bytes ∧ 0 < te.size ∧ (es ++ xs).all (fun c => c.length == te.size) = true
      · rw [if_pos hc] at h
        obtain ⟨hbound, hbpos, hspos, hall⟩ := hc
        have hz : ∀ c ∈ es ++ xs, c.length = te.size := fun c hc => by have := List.all_eq_true.1 hall c hc; simpa using this
        have hze1 : ∀ c ∈ es, c.length = te.size := fun c hc => hz c (by simp [hc])
        have hzx : ∀ c ∈ xs, c.length = te.size := fun c hc => hz c (by simp [hc])
        obtain ⟨A, cap, us, rfl, hcap, hul, hur, hcells, hown, hfull⟩ := sl_cells hs hze1 hspos
        obtain ⟨B, c2, news, rfl, _, hnl, hnr, hncells, _, _⟩ := sl_cells hx hzx hspos
        have hm : 0 < xs.length := by cases xs <;> simp_all
        have hlen : es.length + xs.length ≤ 70368744177664 := Nat.le_trans (Nat.le_mul_of_pos_right _ hbpos) hbound
        have hBsome : ∃ b, B = some b := by
          have : 0 < news.length := by rw [hnl]; exact Nat.mul_pos hm hspos
          obtain ⟨a, e, _⟩ := hncells 0 news[0] (List.getElem?_eq_getElem this)
          exact ⟨a, e⟩
        obtain ⟨b, rfl⟩ := hBsome
        have hnews : ∀ (j : Nat) (u : Value), news[j]? = some u → w.cell? (b.add j) = some u := fun j u hj => by
          obtain ⟨a, e, c⟩ := hncells j u hj
          cases e; exact c.1
        have hn1 : ∀ u ∈ news, u.oneCell' = true := fun u hu => by
          obtain ⟨j, hj⟩ := List.getElem?_of_mem hu
          obtain ⟨a, e, c⟩ := hncells j u hj
          exact c.2.2
        have hu1 : ∀ u ∈ us, u.oneCell' = true := fun u hu => by
          obtain ⟨j, hj⟩ := List.getElem?_of_mem hu
          obtain ⟨a, e, c⟩ := hcells j u hj
          exact c.2.2
        have hflat : VRs G w (es ++ xs).flatten (us ++ news) := by rw [List.flatten_append]; exact hur.append hnr
        have h1' : ∀ u ∈ us ++ news, u.oneCell' = true := fun u hu => (List.mem_append.1 hu).elim (hu1 u) (hn1 u)
        have hz0 : z.cells.size = ie.size := by omega
        -- the row moves
        have grow : ∀ (i v' : Nat), i ≤ G.tok.length → (∀ v b k, G.tok[i]? = some (v, b, k) → v < v') → cap < es.length + xs.length → (A = none → cap = 0) →
            ∃ u w' G', (Builtin.append_ #[t, t] ty #[.slice A es.length cap, .slice (some b) xs.length c2]).run cx.P w = .ok u w' ∧ VR G' w' (.sl (es ++ xs) (.tok i v')) u ∧ SR G' { S with tk := newTok S.tk i v' } w' ∧ Mv G w G' w' := by
          intro i v' hi hv hlt hA
          have hge := grownCap_ge w (es.length + xs.length) cap e
          have fit : (Builtin.zeroCells z.cells (grownCap w (es.length + xs.length) cap e - (es.length + xs.length))).size = (grownCap w (es.length + xs.length) cap e - (es ++ xs).length) * te.size := by
            rw [size_zeroCells, List.length_append]; rw [hz0, hse]
          have hgr := grown_ok sr (e := e) hi hv hz hflat h1' (cap := grownCap w (es.length + xs.length) cap e) (by rw [List.length_append]; exact hge) fit
          simp only [List.length_append] at hgr
          cases A with
          | none =>
            have h0 : es = [] := by
              cases es with
              | nil => rfl
              | cons x es' =>
                have : 0 < us.length := by rw [hul]; exact Nat.mul_pos (by simp) hspos
                obtain ⟨a, e, _⟩ := hcells 0 us[0] (List.getElem?_eq_getElem this)
                cases e
            subst h0
            have hus : us = [] := List.eq_nil_of_length_eq_zero (by simpa using hul)
            subst hus
            obtain rfl : cap = 0 := hA rfl
            have hr := run_append_nil (P := cx.P) w t ty e ie z hu hie hze b xs.length c2 news (by rw [hse]; exact hnl) hnews hm (by omega) (by rw [hby]; simp only [List.length_nil, Nat.zero_add] at hbound; omega)
            refine ⟨_, _, ⟨G.loc, newTok G.tok i (v', w.heap.size, xs.length * te.size), G.out⟩, hr, ?_, ?_, ?_⟩
            · simpa using hgr.2.2
            · simpa using hgr.1
            · simpa using hgr.2.1
          | some a =>
            have hr := run_append_grow (P := cx.P) w t ty e ie z hu hie hze a es.length cap us (by rw [hse]; exact hul) (fun j v hj => by obtain ⟨a', e', c⟩ := hcells j v hj; cases e'; exact c.1) b xs.length c2 news (by rw [hse]; exact hnl) hnews hlt (by omega)
              (growslice_fits hlt (by rw [hby]; omega))
            refine ⟨_, _, ⟨G.loc, newTok G.tok i (v', w.heap.size, (es.length + xs.length) * te.size), G.out⟩, hr, ?_, ?_, ?_⟩
            · simpa using hgr.2.2
            · simpa using hgr.1
            · simpa using hgr.2.1
        cases o with
        | dead => cases h
        | full =>
          cases h
          obtain rfl := hfull rfl
          have hl : S.tk.length = G.tok.length := by rw [sr.tk]; simp
          have h0 : ∀ v b k, G.tok[S.tk.length]? = some (v, b, k) → v < 0 := fun v b k hg => by rw [hl, List.getElem?_eq_none (Nat.le_refl _)] at hg; cases hg
          have := grow S.tk.length 0 (by omega) h0 (by omega) (fun hA => by
            subst hA
            cases es with
            | nil => rfl
            | cons x es' =>
              have : 0 < us.length := by rw [hul]; exact Nat.mul_pos (by simp) hspos
              obtain ⟨a, e, _⟩ := hcells 0 us[0] (List.getElem?_eq_getElem this)
              cases e)
          have e : newTok S.tk S.tk.length 0 = S.tk ++ [0] := by simp [newTok]
          rw [e] at this
          exact this
        | tok n ver =>
          by_cases hcnd : S.tk[n]? = some ver ∧ es.isEmpty = false
          · simp only [hcnd, and_self, if_true, Option.some.injEq, Prod.mk.injEq] at h
            obtain ⟨rfl, rfl⟩ := h
            have hne : es ≠ [] := by intro e; rw [e] at hcnd; simp at hcnd
            obtain ⟨v0, blk, k, htok, hle, hlive⟩ := hown hne
            have hver : v0 = ver := by
              have := hcnd.1
              rw [sr.tk, List.getElem?_map, htok] at this
              simpa using this
            subst hver
            obtain ⟨rfl, rfl, cur, tag, hheap, hcur⟩ := hlive rfl
            have hn : n < G.tok.length := (List.getElem?_eq_some_iff.1 htok).1
            have hv1 : ∀ v b k, G.tok[n]? = some (v, b, k) → v < v0 + 1 := fun v b k hg => by rw [htok] at hg; cases hg; omega
            have hset : S.tk.set n (v0 + 1) = newTok S.tk n (v0 + 1) := by
              have : n < S.tk.length := by rw [sr.tk]; simpa using hn
              simp [newTok, this]
            rw [hset]
            by_cases hroom : es.length + xs.length ≤ cap
            · have hfit : es.length * ie.size + news.length ≤ cur.size := by rw [hnl, hcur, hse, ← Nat.add_mul]; exact Nat.mul_le_mul_right _ hroom
              have hr := run_room w t ty e ie hu hie blk es.length cap tag cur hheap b xs.length c2 news (by rw [hse]; exact hnl) hnews hn1 hroom hfit
              rw [hse] at hr hfit
              have hw' : (w.setRow blk (cur.toList.take (es.length * te.size) ++ news ++ cur.toList.drop (es.length * te.size + news.length)).toArray).heap[blk]? = some (.cells (cur.toList.take (es.length * te.size) ++ news ++ cur.toList.drop (es.length * te.size + news.length)).toArray tag (0, 0)) := setRow_heap w blk cur _ tag _ hheap
              have htl : (cur.toList.take (es.length * te.size)).length = es.length * te.size := by simp; omega
              have hcell : ∀ (a : Addr) (u : Value), w.cell? a = some u → Stab G w a → (w.setRow blk (cur.toList.take (es.length * te.size) ++ news ++ cur.toList.drop (es.length * te.size + news.length)).toArray).cell? a = some u := by
                intro a u hc s
                by_cases hb : a.block = blk
                · have hoff := s.2.2.1 _ (List.mem_of_getElem? htok) hb.symm
                  simp only at hoff
                  simp only [World.cell?, hb, hw', hheap] at hc ⊢
                  split at hc
                  · cases hc
                  · rw [if_neg (by assumption)]
                    simp only [List.getElem?_toArray, List.append_assoc]
                    rw [List.getElem?_append_left (by omega), List.getElem?_take, if_pos hoff]
                    simpa using hc
                · exact (cell_setRow_other w blk _ a hb).trans hc
              obtain ⟨g1, g2⟩ := sr_tok (w' := w.setRow blk (cur.toList.take (es.length * te.size) ++ news ++ cur.toList.drop (es.length * te.size + news.length)).toArray) (k' := (es.length + xs.length) * te.size) sr (Nat.le_of_lt hn) hv1 (.inr ⟨v0, _, htok⟩)
                (heap_lt hw') hcell (fun a s hb => by
                  have := s.2.2.1 _ (List.mem_of_getElem? htok) hb.symm
                  simp only at this
                  rw [Nat.add_mul]; omega) rfl rfl rfl (by rw [size_setRow]; exact Nat.le_refl _) (fun j _ hj => setRow_other w blk j _ hj)
              refine ⟨_, _, _, hr, ?_, g1, g2⟩
              refine Eq.mp (congrArg (fun n => VR _ _ _ (.slice _ n _)) (List.length_append (as := es) (bs := xs))) ?_
              refine sl_of_cells hz (by rw [List.length_append]; exact hroom) (hflat.mono g2.ge) (fun k hk => ⟨_, rfl, ?_⟩) ?_
              · rw [add_at]
                have hull : (us ++ news).length = (es ++ xs).length * te.size := by rw [List.length_append, hul, hnl, List.length_append, Nat.add_mul]
                have hk' : k < (us ++ news).length := by omega
                have hkk : k < us.length + news.length := by simpa using hk'
                have hg : (us ++ news).getD k Go.undef = (us ++ news)[k] := by simp [List.getD, List.getElem?_eq_getElem hk']
                rw [hg]
                refine ⟨?_, ⟨heap_lt hw', fun hm => sr.dis _ (List.mem_of_getElem? htok) hm, fun e he hb => ?_, fun e he hb => absurd hb.symm ((sr.od e he).2.2 _ (List.mem_of_getElem? htok))⟩, h1' _ (List.getElem_mem hk')⟩
                · rw [cell_of_row _ _ _ _ _ _ hw']
                  simp only [List.getElem?_toArray, List.append_assoc]
                  by_cases hku : k < us.length
                  · rw [List.getElem?_append_left (by omega), List.getElem?_take, if_pos (by omega)]
                    rw [List.getElem_append_left hku]
                    have hc := hcells k us[k] (List.getElem?_eq_getElem hku)
                    obtain ⟨a, e, c⟩ := hc
                    cases e
                    rw [add_at] at c
                    have := c.1
                    rw [cell_of_row _ _ _ _ _ _ hheap] at this
                    simpa using this
                  · rw [List.getElem?_append_right (by omega), htl, List.getElem?_append_left (by omega)]
                    rw [List.getElem_append_right (by omega)]
                    rw [List.getElem?_eq_getElem (by omega)]
                    congr 2; omega
                · rcases mem_newTok (Nat.le_of_lt hn) he with rfl | ⟨j, hj, ht⟩
                  · rw [List.length_append] at hk; exact hk
                  · exact absurd (sr.tnd j n _ _ _ _ _ ht (by rw [show blk = _ from hb.symm] at htok; exact htok)) hj
              · refine ⟨v0 + 1, blk, _, newTok_same (Nat.le_of_lt hn), Nat.le_refl _, fun _ => ⟨rfl, by rw [List.length_append], _, _, hw', ?_⟩⟩
                simp only [List.size_toArray, List.length_append, htl, List.length_drop, Array.length_toList]
                omega
            · exact grow n (v0 + 1) (Nat.le_of_lt hn) hv1 (by omega) (fun e => by cases e)
          · simp only [hcnd, if_false] at h; cases h
      · rw [if_neg hc] at h; cases h
  · cases h

end M
end Go.Proofs.Ytgkdehfbeejlfaa
