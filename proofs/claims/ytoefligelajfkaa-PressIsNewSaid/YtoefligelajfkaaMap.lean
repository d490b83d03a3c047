import Derived.Test.YtoefligelajfkaaPPressSpoiltx0
import Derived.Maps.Keyed
import Derived.WideKeyEntry
import Derived.WideKeyPair
namespace Go.Proofs.Ytoefligelajfkaa.Press
open Go.RowKit Go.Proofs.YtoefligelajfkaaW.PrintWords Go.Proofs.YtoefligelajfkaaW.PrintLast Go.Proofs.YtoefligelajfkaaW.PrintMore
open Go.Maps (Keyed)
open Go.ChangeMaps (setBlock heap_setBlock_same heap_setBlock_other)

/-- The entries of a map of lists of numbers, each in a row of its own; nothing was ever taken out. -/
structure GE (P : Program) (k : TypeId) (w : World) (base : Nat) (g : Value → List Int) (es : Array MapEntry) (clock : Nat) : Prop where
  key : ∀ (i : Nat) (x : MapEntry), es[i]? = some x → ∃ l, keyOf P k x.key = some l
  own : ∀ (i : Nat) (x : MapEntry), es[i]? = some x → (Kd.int .i64).R 3 w base (fun _ => True) x.val (g x.key)
  born : ∀ (i : Nat) (x : MapEntry), es[i]? = some x → x.born = i
  clk : clock = es.size
  dist : ∀ (i j : Nat) (x y : MapEntry), es[i]? = some x → es[j]? = some y → x.key = y.key → i = j
  no : ∀ v, (∀ (i : Nat) (x : MapEntry), es[i]? = some x → x.key ≠ v) → g v = []
  apart : ∀ (i j : Nat) (x y : MapEntry), es[i]? = some x → es[j]? = some y → i ≠ j → x.val.ownBlock = none ∨ x.val.ownBlock ≠ y.val.ownBlock

/-- Block b is a map that tells of each key the list that g tells. -/
def Grp (P : Program) (k : TypeId) (w : World) (b base : Nat) (g : Value → List Int) : Prop :=
  ∃ es clock, w.heap[b]? = some (.map es clock) ∧ GE P k w base g es clock

section
variable {P : Program} {k t e : TypeId} {w : World} {b base : Nat} {g : Value → List Int}

theorem Grp.lt (h : Grp P k w b base g) : b < w.heap.size := by
  obtain ⟨es, clock, hb, _⟩ := h
  exact (Array.getElem?_eq_some_iff.1 hb).1

theorem Grp.made (P : Program) (k : TypeId) (w : World) (base : Nat) : Grp P k (w.alloc (.map #[] 0)) w.heap.size base (fun _ => []) :=
  ⟨#[], 0, heap_alloc_new w _, ⟨by simp, by simp, by simp, rfl, by simp, fun _ _ => rfl, by simp⟩⟩

/-- Whatever turns a block that is neither the map's nor a row of its type. -/
theorem Grp.step {w1 : World} (h : Grp P k w b base g) (hs : ∀ j, j < w.heap.size → (j = b ∨ ∃ cells, w.heap[j]? = some (.cells cells 3 (0, 0))) → w1.heap[j]? = w.heap[j]?) : Grp P k w1 b base g := by
  have hlt := h.lt
  obtain ⟨es, clock, hb, G⟩ := h
  refine ⟨es, clock, (hs b hlt (.inl rfl)).trans hb, ⟨G.key, fun i x hx => ?_, G.born, G.clk, G.dist, G.no, G.apart⟩⟩
  have ho := G.own i x hx
  refine Kd.R_mono (Kd.R_move (Kd.R_bound ho) ?_) (fun _ _ => trivial)
  rintro j ⟨_, _, hj, q, hq, cells, hc⟩
  refine hs j hj (.inr ⟨cells, ?_⟩)
  have : q = 3 := by simpa [Kd.int, Kd.scalar] using hq
  rw [this] at hc
  exact hc

theorem Grp.below {w1 : World} (h : Grp P k w b base g) (hb : Below w.heap.size w w1) : Grp P k w1 b base g := h.step fun j hj _ => hb.block j hj

/-- A row of another type was written. -/
theorem Grp.grown {w1 : World} {v : Value} {b' e' s n : Nat} {xs : List Value} (h : Grp P k w b base g) (hv : w.ownsRow b' e' s v n xs) (hne : e' ≠ 3) (hg : w.grownBy w1 v.ownBlock) : Grp P k w1 b base g := by
  obtain ⟨es, clock, hb, G⟩ := h
  refine Grp.step ⟨es, clock, hb, G⟩ fun j hj hc => hg.block j hj ?_
  intro he
  obtain ⟨cells, hcells⟩ := own_typed hv j he.symm
  rcases hc with rfl | ⟨cells', hc⟩
  · rw [hb] at hcells; cases hcells
  · rw [hc] at hcells
    injection hcells with hcells
    injection hcells with _ ht
    exact hne ht.symm

theorem entry_at {es : Array MapEntry} {i : Nat} {x : MapEntry} (h : es.toList[i]? = some x) : es[i]? = some x := by simpa using h

theorem GE.find {es : Array MapEntry} {clock : Nat} (G : GE P k w base g es clock) (K : Keyed P k) {key : Value} {kl : Lit} (hkey : keyOf P k key = some kl) :
    ((Instr.findKey k key es.toList).run P w = .ok none w ∧ ∀ (i : Nat) (x : MapEntry), es[i]? = some x → x.key ≠ key) ∨
    ∃ j x, (Instr.findKey k key es.toList).run P w = .ok (some (j, x.val)) w ∧ es[j]? = some x ∧ x.key = key := by
  rcases K.find w hkey es.toList (fun x hx => by
    obtain ⟨i, hi⟩ := List.mem_iff_getElem?.1 hx
    exact G.key i x (entry_at hi)) with ⟨h1, h2⟩ | ⟨j, x, h1, h2, h3⟩
  · exact .inl ⟨h1, fun i x hx => h2 x (List.mem_of_getElem? (by simpa using hx))⟩
  · exact .inr ⟨j, x, h1, entry_at h2, h3⟩

theorem Grp.lookup (h : Grp P k w b base g) (K : Keyed P k) (ht : P.underlying t = some (.map k e)) (hz : (zeroValue e).run P w = .ok (.slice none 0 0) w) {key : Value} {kl : Lit} (hkey : keyOf P k key = some kl) :
    ∃ v, (Instr.lookup t (.map (some b)) key false).run P w = .ok v w ∧ (Kd.int .i64).R 3 w base (fun _ => True) v (g key) := by
  obtain ⟨es, clock, hb, G⟩ := h
  rcases G.find K hkey with ⟨h1, h2⟩ | ⟨j, x, h1, h2, h3⟩
  · refine ⟨.slice none 0 0, by simp [Instr.lookup, run_underlying ht, MapKept.run_getObj_map hb, K.check w _ hkey, h1, hz, Result.andThen], ?_⟩
    rw [G.no key h2]
    exact Kd.R_nil _ _ _ _ _
  · refine ⟨x.val, by simp [Instr.lookup, run_underlying ht, MapKept.run_getObj_map hb, K.check w _ hkey, h1, Result.andThen], ?_⟩
    rw [← h3]
    exact G.own j x h2

/-- What g tells, but of one key. -/
noncomputable def upd (g : Value → List Int) (key : Value) (xs : List Int) (v : Value) : List Int := open Classical in if v = key then xs else g v
theorem upd_same (g : Value → List Int) (key : Value) (xs : List Int) : upd g key xs key = xs := by simp [upd]
theorem upd_other (g : Value → List Int) {key v : Value} (xs : List Int) (h : v ≠ key) : upd g key xs v = g v := by simp [upd, h]

/-- 'm[k] op= ..': the entry is there, whatever is done to its row and to new blocks, it is stored back. -/
theorem Grp.entry (h : Grp P k w b base g) (K : Keyed P k) (ht : P.underlying t = some (.map k e)) (hz : ∀ u : World, (zeroValue e).run P u = .ok (.slice none 0 0) u) {key : Value} {kl : Lit} (hkey : keyOf P k key = some kl) :
    ∃ (v : Value) (st : Nat) (w1 : World), (Instr.mapEntry t (.map (some b)) key).run P w = .ok (.tuple #[v, goInt st]) w1 ∧ (Kd.int .i64).R 3 w1 base (fun _ => True) v (g key) ∧ w.grownBy w1 (some b) ∧ w1.heap.size = w.heap.size ∧
      ∀ (w2 : World) (v' : Value) (zs : List Int), w1.grownBy w2 v.ownBlock → (Kd.int .i64).R 3 w2 base (fun _ => True) v' zs → (v'.ownBlock = v.ownBlock ∨ ∃ q, v'.ownBlock = some q ∧ w1.heap.size ≤ q) →
        ∃ w3, (Instr.entryStore t (.map (some b)) (goInt st) v').run P w2 = .ok () w3 ∧ Grp P k w3 b base (upd g key zs) ∧ w2.grownBy w3 (some b) := by
  obtain ⟨es, clock, hb, G⟩ := h
  -- what is alike in both cases: es1 is the array with the entry at place j
  have main : ∀ (es1 : Array MapEntry) (j : Nat) (x : MapEntry), es1[j]? = some x → x.key = key → x.born = j →
      GE P k (setBlock w b (.map es1 es1.size)) base g es1 es1.size →
      ∀ (w2 : World) (v' : Value) (zs : List Int), (setBlock w b (.map es1 es1.size)).grownBy w2 x.val.ownBlock → (Kd.int .i64).R 3 w2 base (fun _ => True) v' zs →
        (v'.ownBlock = x.val.ownBlock ∨ ∃ q, v'.ownBlock = some q ∧ (setBlock w b (.map es1 es1.size)).heap.size ≤ q) →
        ∃ w3, (Instr.entryStore t (.map (some b)) (goInt j) v').run P w2 = .ok () w3 ∧ Grp P k w3 b base (upd g key zs) ∧ w2.grownBy w3 (some b) := by
    intro es1 j x hx hxk hxb G1 w2 v' zs hg hR hloc
    have hb1 : (setBlock w b (.map es1 es1.size)).heap[b]? = some (.map es1 es1.size) := heap_setBlock_same hb _
    have hxo := G1.own j x hx
    have hne : some b ≠ x.val.ownBlock := by
      intro he
      obtain ⟨cells, hc⟩ := Kd.R_typed hxo b he.symm
      rw [hb1] at hc; cases hc
    have hb2 : w2.heap[b]? = some (.map es1 es1.size) := (hg.block b (Array.getElem?_eq_some_iff.1 hb1).1 hne).trans hb1
    have hj : j < es1.size := (Array.getElem?_eq_some_iff.1 hx).1
    have hidx : es1.findIdx? (fun e => ((e.born : Nat) : Int) == ((j : Nat) : Int)) = some j := by
      rw [Array.findIdx?_eq_some_iff_getElem]
      refine ⟨hj, ?_, ?_⟩
      · have := G1.born j es1[j] (by simp [hj])
        simp [this]
      · intro i hi
        have := G1.born i (es1[i]'(by omega)) (by simp)
        simp [this]; omega
    have get : ∀ i y, (es1.modify j (fun e => { e with val := v' }))[i]? = some y → ∃ z, es1[i]? = some z ∧ y.key = z.key ∧ y.born = z.born ∧ ((i = j ∧ y.val = v') ∨ (i ≠ j ∧ y.val = z.val)) := by
      intro i y hy
      rw [Array.getElem?_modify] at hy
      by_cases hij : j = i
      · subst hij
        rw [if_pos rfl, hx] at hy
        simp at hy
        subst hy
        exact ⟨x, hx, rfl, rfl, .inl ⟨rfl, rfl⟩⟩
      · rw [if_neg hij] at hy
        exact ⟨y, hy, rfl, rfl, .inr ⟨fun e => hij e.symm, rfl⟩⟩
    have hsz : (es1.modify j (fun e => { e with val := v' })).size = es1.size := by simp
    refine ⟨setBlock w2 b (.map (es1.modify j (fun e => { e with val := v' })) es1.size), ?_, ⟨_, _, heap_setBlock_same hb2 _, ?_⟩, ?_⟩
    · simp [Instr.entryStore, MapKept.run_getObj_map hb2, asInt, asIntOf, goInt, hidx, MapKept.run_setObj_map _ hb2, Result.andThen, setBlock]
    · have stay : ∀ {v : Value} {ys : List Int}, (Kd.int .i64).R 3 w2 base (fun _ => True) v ys → (Kd.int .i64).R 3 (setBlock w2 b (.map (es1.modify j (fun e => { e with val := v' })) es1.size)) base (fun _ => True) v ys := by
        intro v ys hv
        refine Kd.R_mono (Kd.R_move (Kd.R_bound hv) ?_) (fun _ _ => trivial)
        rintro i ⟨_, _, hi, q, hq, cells, hc⟩
        refine heap_setBlock_other hb2 _ ?_
        rintro rfl
        rw [hb2] at hc; cases hc
      have old : ∀ i y, es1[i]? = some y → i ≠ j → (Kd.int .i64).R 3 w2 base (fun _ => True) y.val (g y.key) := by
        intro i y hy hij
        refine Kd.R_mono (Kd.R_grown (Kd.R_of_own (ok := fun k => some k ≠ x.val.ownBlock) (Kd.own_of_R (G1.own i y hy)) (fun k hk => ?_)) hg (fun k h => h)) (fun _ _ => trivial)
        rcases G1.apart i j y x hy hx hij with h | h
        · rw [h] at hk; cases hk
        · rw [← hk]; exact h
      refine ⟨?_, ?_, ?_, hsz.symm, ?_, ?_, ?_⟩
      · intro i y hy
        obtain ⟨z, hz1, e1, _⟩ := get i y hy
        rw [e1]; exact G1.key i z hz1
      · intro i y hy
        obtain ⟨z, hz1, e1, _, ⟨rfl, e2⟩ | ⟨hij, e2⟩⟩ := get i y hy
        · have : z = x := by rw [hx] at hz1; exact (Option.some.inj hz1).symm
          subst this
          rw [e1, e2, hxk, upd_same]
          exact stay hR
        · have hk : z.key ≠ key := fun he => hij (G1.dist i j z x hz1 hx (he.trans hxk.symm))
          rw [e1, e2, upd_other _ _ hk]
          exact stay (old i z hz1 hij)
      · intro i y hy
        obtain ⟨z, hz1, _, e1, _⟩ := get i y hy
        rw [e1]; exact G1.born i z hz1
      · intro i i' y y' hy hy' he
        obtain ⟨z, hz1, e1, _⟩ := get i y hy
        obtain ⟨z', hz1', e1', _⟩ := get i' y' hy'
        exact G1.dist i i' z z' hz1 hz1' (by rw [← e1, ← e1', he])
      · intro v hv
        have hvk : v ≠ key := by
          rintro rfl
          refine hv j { x with val := v' } ?_ hxk
          rw [Array.getElem?_modify, if_pos rfl, hx]; rfl
        rw [upd_other _ _ hvk]
        refine G1.no v fun i z hz1 he => ?_
        by_cases hij : j = i
        · subst hij
          have : z = x := by rw [hx] at hz1; exact (Option.some.inj hz1).symm
          subst this
          exact hvk (he.symm.trans hxk)
        · refine hv i z ?_ he
          rw [Array.getElem?_modify, if_neg hij]; exact hz1
      · have new_old : ∀ i y, es1[i]? = some y → i ≠ j → (v'.ownBlock = none ∨ v'.ownBlock ≠ y.val.ownBlock) ∧ (y.val.ownBlock = none ∨ y.val.ownBlock ≠ v'.ownBlock) := by
          intro i y hy hij
          rcases hloc with h | ⟨q, h, hq⟩
          · rw [h]
            exact ⟨G1.apart j i x y hx hy (fun e => hij e.symm), G1.apart i j y x hy hx hij⟩
          · have hne : y.val.ownBlock ≠ v'.ownBlock := by
              intro he
              have := Kd.R_lt (G1.own i y hy) q (he.trans h)
              omega
            exact ⟨.inr fun e => hne e.symm, .inr hne⟩
        intro i i' y y' hy hy' hne'
        obtain ⟨z, hz1, _, _, ⟨hi1, e2⟩ | ⟨hij, e2⟩⟩ := get i y hy <;> obtain ⟨z', hz1', _, _, ⟨hi1', e2'⟩ | ⟨hij', e2'⟩⟩ := get i' y' hy'
        · exact absurd (hi1.trans hi1'.symm) hne'
        · rw [e2, e2']; exact (new_old i' z' hz1' hij').1
        · rw [e2, e2']; exact (new_old i z hz1 hij).2
        · rw [e2, e2']; exact G1.apart i i' z z' hz1 hz1' hne'
    · exact ⟨rfl, rfl, rfl, by simp [setBlock], fun i _ hi => heap_setBlock_other hb2 _ (fun e => hi (by rw [e]))⟩
  have stay1 : ∀ (es1 : Array MapEntry) (c1 : Nat) {v : Value} {ys : List Int}, (Kd.int .i64).R 3 w base (fun _ => True) v ys → (Kd.int .i64).R 3 (setBlock w b (.map es1 c1)) base (fun _ => True) v ys := by
    intro es1 c1 v ys hv
    refine Kd.R_mono (Kd.R_move (Kd.R_bound hv) ?_) (fun _ _ => trivial)
    rintro i ⟨_, _, hi, q, hq, cells, hc⟩
    refine heap_setBlock_other hb _ ?_
    rintro rfl
    rw [hb] at hc; cases hc
  have grow1 : ∀ (es1 : Array MapEntry) (c1 : Nat), w.grownBy (setBlock w b (.map es1 c1)) (some b) := fun es1 c1 => ⟨rfl, rfl, rfl, by simp [setBlock], fun i _ hi => heap_setBlock_other hb _ (fun e => hi (by rw [e]))⟩
  rcases G.find K hkey with ⟨h1, h2⟩ | ⟨j, x, h1, h2, h3⟩
  · have hsz : (es.push ⟨key, .slice none 0 0, clock⟩).size = es.size + 1 := by simp
    have get : ∀ i y, (es.push (⟨key, .slice none 0 0, clock⟩ : MapEntry))[i]? = some y → es[i]? = some y ∨ (i = es.size ∧ y = ⟨key, .slice none 0 0, clock⟩) := by
      intro i y hy
      rw [Array.getElem?_push] at hy
      split at hy
      · exact .inr ⟨by assumption, (Option.some.inj hy).symm⟩
      · exact .inl hy
    have G1 : GE P k (setBlock w b (.map (es.push ⟨key, .slice none 0 0, clock⟩) (es.push ⟨key, .slice none 0 0, clock⟩).size)) base g (es.push ⟨key, .slice none 0 0, clock⟩) (es.push ⟨key, .slice none 0 0, clock⟩).size := by
      refine ⟨?_, ?_, ?_, rfl, ?_, ?_, ?_⟩
      · intro i y hy
        rcases get i y hy with h | ⟨_, rfl⟩
        · exact G.key i y h
        · exact ⟨kl, hkey⟩
      · intro i y hy
        rcases get i y hy with h | ⟨_, rfl⟩
        · exact stay1 _ _ (G.own i y h)
        · rw [G.no key h2]; exact Kd.R_nil _ _ _ _ _
      · intro i y hy
        rcases get i y hy with h | ⟨h, rfl⟩
        · exact G.born i y h
        · exact G.clk.trans h.symm
      · intro i i' y y' hy hy' he
        rcases get i y hy with h | ⟨h, rfl⟩ <;> rcases get i' y' hy' with h' | ⟨h', rfl⟩
        · exact G.dist i i' y y' h h' he
        · exact absurd he (h2 i y h)
        · exact absurd he.symm (h2 i' y' h')
        · exact h.trans h'.symm
      · intro v hv
        refine G.no v fun i y hy => hv i y ?_
        rw [Array.getElem?_push, if_neg (by have := (Array.getElem?_eq_some_iff.1 hy).1; omega)]
        exact hy
      · intro i i' y y' hy hy' hne
        rcases get i y hy with h | ⟨h, rfl⟩ <;> rcases get i' y' hy' with h' | ⟨h', rfl⟩
        · exact G.apart i i' y y' h h' hne
        · cases hq : y.val.ownBlock with
          | none => exact .inl rfl
          | some q => exact .inr (by simp [Value.ownBlock])
        · exact .inl rfl
        · exact absurd (h.trans h'.symm) hne
    have hx : (es.push (⟨key, .slice none 0 0, clock⟩ : MapEntry))[es.size]? = some ⟨key, .slice none 0 0, clock⟩ := by simp
    refine ⟨.slice none 0 0, es.size, _, ?_, ?_, grow1 _ _, by simp [setBlock], main _ es.size ⟨key, .slice none 0 0, clock⟩ hx rfl G.clk G1⟩
    · rw [hsz, ← G.clk]
      simp [Instr.mapEntry, run_underlying ht, MapKept.run_getObj_map hb, K.check w false hkey, h1, hz, MapKept.run_setObj_map _ hb, Result.andThen, setBlock]
    · rw [G.no key h2]; exact Kd.R_nil _ _ _ _ _
  · have hmod : es.modify j (fun e => { e with key := key }) = es := by
      apply Array.ext_getElem?
      intro i
      rw [Array.getElem?_modify]
      split
      · rename_i h; subst h; rw [h2]; simp [← h3]
      · rfl
    have G1 : GE P k (setBlock w b (.map es es.size)) base g es es.size := ⟨G.key, fun i y hy => stay1 _ _ (G.own i y hy), G.born, rfl, G.dist, G.no, G.apart⟩
    refine ⟨x.val, j, _, ?_, by rw [← h3]; exact stay1 _ _ (G.own j x h2), grow1 _ _, by simp [setBlock], main es j x h2 h3 (G.born j x h2) G1⟩
    have hj : j < es.size := (Array.getElem?_eq_some_iff.1 h2).1
    have hx : es[j] = x := (Array.getElem?_eq_some_iff.1 h2).2
    rw [← G.clk]
    simp [Instr.mapEntry, run_underlying ht, MapKept.run_getObj_map hb, K.check w false hkey, h1, h2, h3, K.stays w hkey, hmod, G.born j x h2, MapKept.run_setObj_map _ hb, Result.andThen, setBlock]
end
end Go.Proofs.Ytoefligelajfkaa.Press
