import Derived.Test.YtdekmeanlcpenaaGreatDoorCf1
import Derived.Test.YtdekmeanlcpenaaGreatDoorProg
import Derived.Lib.BytesEntry
import Derived.BigQuiet
import Derived.Maps.Keyed
import Derived.DeepKeys4
import Derived.Deep.RegionHeld3
import Derived.Test.YtdekmeanlcpenaaGreatDoorWAt
namespace Go.Proofs.YtdekmeanlcpenaaGreatDoor.Codec
open Go.Proofs.YtdekmeanlcpenaaGreatDoor.Mid Go.Proofs.YtdekmeanlcpenaaGreatDoor.Block

theorem tab_len {rs : List Res} (T : Table rs) (h : ∀ r ∈ rs, ResOk r) : (tabW rs).length = 1 + 65 * rs.length := by
  rw [tabW, List.length_append, flatRes_length h, numW_small (by have := T.most; omega)]
  rfl
theorem tab_le {rs : List Res} (T : Table rs) (h : ∀ r ∈ rs, ResOk r) : (tabW rs).length ≤ 2081 := by rw [tab_len T h]; have := T.most; omega
theorem resW_inj {r s : Res} (hr : ResOk r) (hs : ResOk s) {a b : List Int} (h : resW r ++ a = resW s ++ b) : r = s ∧ a = b := by
  have h1 := List.append_inj h (by rw [resW_length hr, resW_length hs])
  refine ⟨?_, h1.2⟩
  have h2 := List.append_inj h1.1 (by rw [hr.act.len, hs.act.len])
  have h3 := List.append_inj h2.2 (by rw [hr.root.len, hs.root.len])
  cases r; cases s
  simp_all
theorem flatRes_inj : ∀ {rs ss : List Res}, rs.length = ss.length → (∀ r ∈ rs, ResOk r) → (∀ r ∈ ss, ResOk r) → rs.flatMap resW = ss.flatMap resW → rs = ss
  | [], [], _, _, _, _ => rfl
  | r :: rs, s :: ss, hl, h1, h2, h => by
    rw [List.flatMap_cons, List.flatMap_cons] at h
    obtain ⟨e1, e2⟩ := resW_inj (h1 r (by simp)) (h2 s (by simp)) h
    rw [e1, flatRes_inj (by simpa using hl) (fun q hq => h1 q (by simp [hq])) (fun q hq => h2 q (by simp [hq])) e2]
theorem tab_inj {rs ss : List Res} (T : Table rs) (U : Table ss) (h1 : ∀ r ∈ rs, ResOk r) (h2 : ∀ r ∈ ss, ResOk r) (h : tabW rs = tabW ss) : rs = ss := by
  have hl : rs.length = ss.length := by
    have := congrArg List.length h
    rw [tab_len T h1, tab_len U h2] at this
    omega
  refine flatRes_inj hl h1 h2 ?_
  rw [tabW, tabW, hl] at h
  exact List.append_cancel_left h
theorem tab_byt {rs : List Res} (T : Table rs) (h : ∀ r ∈ rs, ResOk r) : Byt (tabW rs) := by
  refine byt_append (numW_byt _ _ (Nat.le_refl _)) (fun x hx => ?_)
  obtain ⟨r, hr, hx⟩ := List.mem_flatMap.1 hx
  rw [resW] at hx
  rcases List.mem_append.1 hx with hx | hx
  · exact (h r hr).act.bytes x hx
  · rcases List.mem_append.1 hx with hx | hx
    · exact (h r hr).root.bytes x hx
    · rw [List.mem_singleton.1 hx]
      exact T.code r hr

/-! ### Journals -/
def sBytes (s : ByteArray) : List Int := s.data.toList.map fun c => (c.toNat : Int)
theorem sBytes_length (s : ByteArray) : (sBytes s).length = s.size := by simp [sBytes]
theorem sBytes_byt (s : ByteArray) : Byt (sBytes s) := fun x hx => by
  obtain ⟨c, _, rfl⟩ := List.mem_map.1 hx
  have := c.toNat_lt
  omega
theorem sBytes_inj {s t : ByteArray} (h : sBytes s = sBytes t) : s = t := by
  have h1 : s.data.toList = t.data.toList := (List.map_inj_right (f := fun c : UInt8 => (c.toNat : Int)) (by intro a b e; exact UInt8.toNat_inj.1 (Int.ofNat.inj e))).1 h
  cases s; cases t
  simp at h1
  rw [h1]
/-- A letter of a name. -/
def okC (c : UInt8) : Bool := (97 ≤ c && c ≤ 122) || (48 ≤ c && c ≤ 57) || c == 46 || c == 45 || c == 95 || c == 43
structure NameOk (s : ByteArray) : Prop where
  pos : 0 < s.size
  most : s.size ≤ 112
  all : ∀ (i : Nat) c, s.data.toList[i]? = some c → okC c = true
def Rises (ids : List (List Int)) : Prop := ∀ (i : Nat) x y, ids[i]? = some x → ids[i + 1]? = some y → cmp x y < 0
structure Jn where
  name : ByteArray
  ent : Int
  idx : Int
  res : List Res
  need : List (List Int)
  tab : List Res
/-- What a journal in memory has. -/
structure JnOk (j : Jn) : Prop where
  res : ∀ r ∈ j.res, ResOk r
  need : ∀ x ∈ j.need, IdOk x
  tab : ∀ r ∈ j.tab, ResOk r
/-- It may be. -/
structure JnV (j : Jn) : Prop where
  name : NameOk j.name
  ent : 0 ≤ j.ent ∧ j.ent ≤ 4294967295
  idx : 0 ≤ j.idx ∧ j.idx ≤ 4294967295
  res : Table j.res
  tab : Table j.tab
  most : j.need.length ≤ 64
  rise : Rises j.need
def bodyW (j : Jn) : List Int := fixW 74 1 ++ (txtW (sBytes j.name) ++ (fixW j.ent.toNat 4 ++ (fixW j.idx.toNat 4 ++ (txtW (tabW j.res) ++ (numW j.need.length ++ (j.need.flatten ++ txtW (tabW j.tab)))))))
def encW (j : Jn) : List Int := bodyW j ++ fixW (sumS (bodyW j)) 4
theorem ids_length : ∀ {ids : List (List Int)}, (∀ x ∈ ids, IdOk x) → ids.flatten.length = 32 * ids.length
  | [], _ => rfl
  | x :: t, h => by
    rw [List.flatten_cons, List.length_append, (h x (by simp)).len, ids_length (fun y hy => h y (by simp [hy])), List.length_cons]
    omega
theorem ids_byt {ids : List (List Int)} (h : ∀ x ∈ ids, IdOk x) : Byt ids.flatten := fun x hx => by
  obtain ⟨l, hl, hx⟩ := List.mem_flatten.1 hx
  exact (h l hl).bytes x hx
theorem txt_byt {l : List Int} (h : Byt l) : Byt (txtW l) := byt_append (numW_byt _ _ (Nat.le_refl _)) h
theorem body_byt {j : Jn} (V : JnV j) (K : JnOk j) : Byt (bodyW j) :=
  byt_append (fixW_byt _ _) (byt_append (txt_byt (sBytes_byt _)) (byt_append (fixW_byt _ _) (byt_append (fixW_byt _ _) (byt_append (txt_byt (tab_byt V.res K.res)) (byt_append (numW_byt _ _ (Nat.le_refl _)) (byt_append (ids_byt K.need) (txt_byt (tab_byt V.tab K.tab))))))))
theorem enc_byt {j : Jn} (V : JnV j) (K : JnOk j) : Byt (encW j) := byt_append (body_byt V K) (fixW_byt _ _)
theorem txt_le {l : List Int} {m : Nat} (h : l.length ≤ m) (hm : m ≤ 2147483647) : (txtW l).length ≤ m + 5 := by
  rw [txtW, List.length_append]
  have := numW_max (v := l.length) (by omega)
  omega
theorem body_le {j : Jn} (V : JnV j) (K : JnOk j) : (bodyW j).length ≤ 8000 := by
  have h1 := txt_le (l := sBytes j.name) (m := 112) (by rw [sBytes_length]; exact V.name.most) (by omega)
  have h2 := txt_le (tab_le V.res K.res) (by omega)
  have h3 := txt_le (tab_le V.tab K.tab) (by omega)
  have h4 := numW_max (v := j.need.length) (by have := V.most; omega)
  have h5 := ids_length K.need
  have h6 := V.most
  simp only [bodyW, List.length_append, fixW_length]
  omega
theorem enc_le {j : Jn} (V : JnV j) (K : JnOk j) : (encW j).length ≤ 8004 := by
  rw [encW, List.length_append, fixW_length]; have := body_le V K; omega
theorem sumS_lt (l : List Int) : sumS l < 4294967296 := by unfold sumS; omega

/-! ### Reading it again -/
def pad32 (l : List Int) : List Int := l ++ List.replicate (32 - l.length) 0
theorem pad32_id {x : List Int} (h : x.length = 32) : pad32 x = x := by rw [pad32, h]; simp
theorem pad32_ok {l : List Int} (hl : l.length ≤ 32) (h : Byt l) : IdOk (pad32 l) := ⟨by rw [pad32, List.length_append, List.length_replicate]; omega, byt_append h (fun x hx => by rw [List.eq_of_mem_replicate hx]; omega)⟩
def needS : Nat → RS → List (List Int) × RS
  | 0, s => ([], s)
  | k + 1, s => (pad32 (s.raw 32).1 :: (needS k (s.raw 32).2).1, (needS k (s.raw 32).2).2)
theorem needS_snoc : ∀ (k : Nat) (s : RS), needS (k + 1) s = ((needS k s).1 ++ [pad32 ((needS k s).2.raw 32).1], ((needS k s).2.raw 32).2)
  | 0, s => rfl
  | k + 1, s => by
    have ih := needS_snoc k (s.raw 32).2
    rw [needS, ih]
    rfl
theorem needS_at : ∀ {ids : List (List Int)} {s : RS} {b : List Int}, (∀ x ∈ ids, IdOk x) → s.At (ids.flatten ++ b) → (needS ids.length s).1 = ids ∧ (needS ids.length s).2.At b
  | [], s, b, _, h => ⟨rfl, h⟩
  | x :: t, s, b, hk, h => by
    rw [List.flatten_cons, List.append_assoc] at h
    have hx := hk x (by simp)
    have h1 := h.raw
    rw [hx.len] at h1
    have h2 := h.on
    rw [hx.len] at h2
    have ih := needS_at (fun y hy => hk y (by simp [hy])) h2
    rw [List.length_cons, needS, h1]
    exact ⟨by rw [ih.1, pad32_id hx.len], ih.2⟩
/-- What a reader reads out of a journal's form. -/
structure GotEnc (j : Jn) (x1 : Int) (x2 : List Int) (x3 x4 : Int) (x5 : List Int) (n : Nat) (x7 : List (List Int)) (x8 : List Int) (s : RS) (t : List Int) : Prop where
  first : x1 = 74
  name : x2 = sBytes j.name
  ent : x3 = j.ent
  idx : x4 = j.idx
  res : x5 = tabW j.res
  many : n = j.need.length
  need : x7 = j.need
  tab : x8 = tabW j.tab
  stop : s.At (fixW (sumS (bodyW j)) 4 ++ t)
theorem got_enc {j : Jn} (V : JnV j) (K : JnOk j) {most : Nat} (hm : 112 ≤ most) {data t : List Int} (hd : encW j ++ t = data) {x1 x3 x4 : Int} {x2 x5 x8 : List Int} {n k : Nat} {x7 : List (List Int)} {s1 s2 s3 s4 s5 s6 s7 s8 : RS}
    (e1 : (RS.start data).fixed 1 = (x1, s1)) (e2 : s1.text most = (x2, s2)) (e3 : s2.fixed 4 = (x3, s3)) (e4 : s3.fixed 4 = (x4, s4)) (e5 : s4.text data.length = (x5, s5)) (e6 : s5.num = (n, s6)) (hk : n ≤ 64 → k = n) (e7 : needS k s6 = (x7, s7)) (e8 : s7.text data.length = (x8, s8)) :
    GotEnc j x1 x2 x3 x4 x5 n x7 x8 s8 t := by
  have hl : data.length = (encW j ++ t).length := by rw [hd]
  have hlen : (txtW (tabW j.res)).length ≤ data.length ∧ (txtW (tabW j.tab)).length ≤ data.length := by
    rw [hl]; simp only [encW, bodyW, List.length_append]; omega
  have ht1 : (tabW j.res).length ≤ (txtW (tabW j.res)).length := by rw [txtW, List.length_append]; omega
  have ht2 : (tabW j.tab).length ≤ (txtW (tabW j.tab)).length := by rw [txtW, List.length_append]; omega
  have a0 := RS.at_start data
  rw [← hd] at a0 e1
  have a0' : (RS.start (encW j ++ t)).At (fixW 74 1 ++ (txtW (sBytes j.name) ++ (fixW j.ent.toNat 4 ++ (fixW j.idx.toNat 4 ++ (txtW (tabW j.res) ++ (numW j.need.length ++ (j.need.flatten ++ (txtW (tabW j.tab) ++ (fixW (sumS (bodyW j)) 4 ++ t))))))))) := by
    have : encW j ++ t = fixW 74 1 ++ (txtW (sBytes j.name) ++ (fixW j.ent.toNat 4 ++ (fixW j.idx.toNat 4 ++ (txtW (tabW j.res) ++ (numW j.need.length ++ (j.need.flatten ++ (txtW (tabW j.tab) ++ (fixW (sumS (bodyW j)) 4 ++ t)))))))) := by
      simp only [encW, bodyW, List.append_assoc]
    rw [← this]; exact RS.at_start _
  have f1 := a0'.fixed (by decide : (74 : Nat) < 256 ^ 1)
  rw [e1] at f1
  injection f1 with g1 g1'
  have a1 := a0'.on
  rw [fixW_length, ← g1'] at a1
  have f2 := a1.text (most := most) (by rw [sBytes_length]; have := V.name.most; omega) (by rw [sBytes_length]; have := V.name.most; omega)
  rw [e2] at f2
  injection f2 with g2 g2'
  have a2 := a1.on
  rw [← g2'] at a2
  have f3 := a2.fixed (by have := V.ent; omega)
  rw [e3] at f3
  injection f3 with g3 g3'
  have a3 := a2.on
  rw [fixW_length, ← g3'] at a3
  have f4 := a3.fixed (by have := V.idx; omega)
  rw [e4] at f4
  injection f4 with g4 g4'
  have a4 := a3.on
  rw [fixW_length, ← g4'] at a4
  have f5 := a4.text (most := data.length) (by have := tab_le V.res K.res; omega) (by omega)
  rw [e5] at f5
  injection f5 with g5 g5'
  have a5 := a4.on
  rw [← g5'] at a5
  have f6 := a5.num (by have := V.most; omega)
  rw [e6] at f6
  injection f6 with g6 g6'
  have a6 := a5.on
  rw [← g6'] at a6
  have hkn := hk (by rw [g6]; exact V.most)
  have f7 := needS_at K.need a6
  rw [← g6, ← hkn, e7] at f7
  have f8 := f7.2.text (most := data.length) (by have := tab_le V.tab K.tab; omega) (by omega)
  rw [e8] at f8
  injection f8 with g8 g8'
  have a8 := f7.2.on
  simp only at g8'
  rw [← g8'] at a8
  exact ⟨g1, g2, by rw [g3]; have := V.ent; omega, by rw [g4]; have := V.idx; omega, g5, g6, f7.1, g8, a8⟩
theorem GotEnc.last {j : Jn} {x1 x3 x4 : Int} {x2 x5 x8 : List Int} {n : Nat} {x7 : List (List Int)} {s s9 : RS} {x9 : Int} (G : GotEnc j x1 x2 x3 x4 x5 n x7 x8 s []) (e9 : s.fixed 4 = (x9, s9)) : s9.code = 0 ∧ s9.left = 0 := by
  have h := G.stop
  have f := h.fixed (by have := sumS_lt (bodyW j); omega)
  rw [e9] at f
  injection f with _ f
  have a := h.on
  rw [fixW_length, ← f] at a
  refine ⟨a.code, ?_⟩
  have := congrArg List.length a.rest
  rw [RS.rest, List.length_drop] at this
  rw [RS.left, if_neg (by simp [a.code])]
  simpa using this
/-- A journal is told by the beginning of its form. -/
theorem enc_inj' {i j : Jn} (V : JnV i) (K : JnOk i) (V' : JnV j) (K' : JnOk j) {t : List Int} (h : encW i ++ t = encW j) : i = j := by
  obtain ⟨data, hd⟩ : ∃ data, encW j ++ [] = data := ⟨_, rfl⟩
  have h' : encW i ++ t = data := by rw [h, ← hd, List.append_nil]
  obtain ⟨⟨x1, s1⟩, e1⟩ : ∃ p, (RS.start data).fixed 1 = p := ⟨_, rfl⟩
  obtain ⟨⟨x2, s2⟩, e2⟩ : ∃ p, s1.text 112 = p := ⟨_, rfl⟩
  obtain ⟨⟨x3, s3⟩, e3⟩ : ∃ p, s2.fixed 4 = p := ⟨_, rfl⟩
  obtain ⟨⟨x4, s4⟩, e4⟩ : ∃ p, s3.fixed 4 = p := ⟨_, rfl⟩
  obtain ⟨⟨x5, s5⟩, e5⟩ : ∃ p, s4.text data.length = p := ⟨_, rfl⟩
  obtain ⟨⟨n, s6⟩, e6⟩ : ∃ p, s5.num = p := ⟨_, rfl⟩
  obtain ⟨⟨x7, s7⟩, e7⟩ : ∃ p, needS n s6 = p := ⟨_, rfl⟩
  obtain ⟨⟨x8, s8⟩, e8⟩ : ∃ p, s7.text data.length = p := ⟨_, rfl⟩
  have G := got_enc V K (Nat.le_refl _) h' e1 e2 e3 e4 e5 e6 (fun _ => rfl) e7 e8
  have H := got_enc V' K' (Nat.le_refl _) hd e1 e2 e3 e4 e5 e6 (fun _ => rfl) e7 e8
  have r1 := sBytes_inj (G.name.symm.trans H.name)
  have r2 := G.ent.symm.trans H.ent
  have r3 := G.idx.symm.trans H.idx
  have r4 := tab_inj V.res V'.res K.res K'.res (G.res.symm.trans H.res)
  have r5 := G.need.symm.trans H.need
  have r6 := tab_inj V.tab V'.tab K.tab K'.tab (G.tab.symm.trans H.tab)
  cases i; cases j
  simp only at r1 r2 r3 r4 r5 r6
  subst r1 r2 r3 r4 r5 r6
  rfl
theorem enc_inj {i j : Jn} (V : JnV i) (K : JnOk i) (V' : JnV j) (K' : JnOk j) (h : encW i = encW j) : i = j := enc_inj' V K V' K' (t := []) (by rw [List.append_nil, h])
/-- The form's beginning is no form. -/
theorem enc_cut {i j : Jn} (V : JnV i) (K : JnOk i) (V' : JnV j) (K' : JnOk j) {m : Nat} (hm : m < (encW j).length) (h : encW i = (encW j).take m) : False := by
  have h1 : encW i ++ (encW j).drop m = encW j := by rw [h, List.take_append_drop]
  have e := enc_inj' V K V' K' h1
  subst e
  have := congrArg List.length h
  rw [List.length_take] at this
  omega
end Go.Proofs.YtdekmeanlcpenaaGreatDoor.Codec

namespace Go.Proofs.YtdekmeanlcpenaaGreatDoor.Mid
open Go.RowKit Go.Proofs.YtdekmeanlcpenaaGreatDoorW.PrintWords

/-! ### A whole array in a new block -/
theorem At.new (w : World) (cs : List Value) (t : TypeId) : At (w.alloc (.cells cs.toArray t)) ⟨w.heap.size, 0, none⟩ cs := fun j v hv => by
  rw [Addr.add_mid, Nat.zero_add]
  have h : (w.alloc (.cells cs.toArray t)).heap[w.heap.size]? = some (.cells cs.toArray t (0, 0)) := heap_alloc_new w _
  rw [blk_cell h]
  simpa using hv
theorem setCells_new (w : World) (t : TypeId) : ∀ (cs pre zs : List Value), zs.length = cs.length → (w.alloc (.cells (pre ++ zs).toArray t)).setCells w.heap.size pre.length cs = w.alloc (.cells (pre ++ cs).toArray t)
  | [], pre, zs, h => by
    have : zs = [] := List.length_eq_zero_iff.1 (by simpa using h)
    subst this
    rfl
  | c :: cs, pre, [], h => by simp at h
  | c :: cs, pre, z :: zs, h => by
    have h1 : (w.alloc (.cells (pre ++ z :: zs).toArray t)).setCell ⟨w.heap.size, pre.length, none⟩ c = w.alloc (.cells ((pre ++ [c]) ++ zs).toArray t) := by
      rw [World.setCell_alloc_new]
      congr 2
      simp
    rw [World.setCells, h1]
    have ih := setCells_new w t cs (pre ++ [c]) zs (by simpa using h)
    rw [List.length_append, List.length_singleton] at ih
    rw [ih, List.append_assoc]
    rfl
section
variable {P : Program} {ops : Array Oper} {rest : List Oper} {op : Oper} {a : Act} {w : World} {Q : Exit → Act → World → Prop} {K : Act → World → Prop}
/-- A whole new variable is stored. -/
theorem wp_store_new (ty : TypeId) (x y : Operand) (ho : op.op = .store ty x y) (zs : Array Value) (cs : List Value) (hx : a.eval x = .pointer (some ⟨w.heap.size, 0, none⟩)) (hy : a.eval y = .agg cs.toArray)
    (hl : zs.size = cs.length) (hi : (P.info? ty).map (·.size) = some cs.length) (h1 : ∀ v ∈ cs, v.oneCell' = true)
    (h : K (a.put op.dst undef) (w.alloc (.cells cs.toArray ty))) : op.wp P a (w.alloc (.cells zs ty)) K Q := by
  have hh : (w.alloc (.cells zs ty)).heap[w.heap.size]? = some (.cells zs ty (0, 0)) := heap_alloc_new w _
  refine wp_store_mid ty x y ho w.heap.size 0 cs.toArray hx hy ?_ (by simpa using hi) (all_oneCell_toArray h1) ?_
  · intro j hj
    have hj2 : j < cs.length := by simpa using hj
    have hj' : j < zs.size := by omega
    refine ⟨?_, blk_frozen hh _⟩
    rw [blk_cell hh]
    simp [hj']
  · have := setCells_new w ty cs [] zs.toList (by simpa using hl)
    simp only [List.nil_append, List.length_nil, Array.toArray_toList] at this
    show K _ ((w.alloc (.cells zs ty)).setCells w.heap.size 0 cs)
    rw [this]
    exact h
theorem wpList_store_new (hgd : op.guard = none) (ty : TypeId) (x y : Operand) (ho : op.op = .store ty x y) (zs : Array Value) (cs : List Value) (hx : a.eval x = .pointer (some ⟨w.heap.size, 0, none⟩)) (hy : a.eval y = .agg cs.toArray)
    (hl : zs.size = cs.length) (hi : (P.info? ty).map (·.size) = some cs.length) (h1 : ∀ v ∈ cs, v.oneCell' = true)
    (h : wpList P ops Q rest (a.put op.dst undef) (w.alloc (.cells cs.toArray ty))) : wpList P ops Q (op :: rest) a (w.alloc (.cells zs ty)) :=
  wpList_plain hgd fun _ hK => wp_store_new ty x y ho zs cs hx hy hl hi h1 (hK _ _ h)
end

/-! ### bytes.Compare -/
theorem compare_cmp : ∀ {x y : List Int}, x.length = y.length → Bs x → Bs y → Lib.compareBytes (Lib.bytesOf x) (Lib.bytesOf y) = cmp x y
  | [], [], _, _, _ => rfl
  | a :: x, b :: y, hl, hx, hy => by
    have ha := hx a (by simp)
    have hb := hy b (by simp)
    have ih := compare_cmp (x := x) (y := y) (by simpa using hl) (fun u hu => hx u (by simp [hu])) (fun u hu => hy u (by simp [hu]))
    have e : ∀ n : Int, 0 ≤ n ∧ n ≤ 255 → (n.toNat.toUInt8).toNat = n.toNat := fun n hn => by
      have : n.toNat < 256 := by omega
      simp [Nat.toUInt8, Nat.mod_eq_of_lt this]
    have h1 : (a.toNat.toUInt8 < b.toNat.toUInt8) ↔ a < b := by
      rw [UInt8.lt_iff_toNat_lt, e a ha, e b hb]; omega
    have h2 : (b.toNat.toUInt8 < a.toNat.toUInt8) ↔ b < a := by
      rw [UInt8.lt_iff_toNat_lt, e a ha, e b hb]; omega
    show (if a.toNat.toUInt8 < b.toNat.toUInt8 then (-1 : Int) else if b.toNat.toUInt8 < a.toNat.toUInt8 then 1 else Lib.compareBytes (Lib.bytesOf x) (Lib.bytesOf y)) = _
    rw [cmp, ih]
    simp only [h1, h2]
theorem run_compare {P : Program} (w : World) (p q : Addr) (c d : Nat) (x y : List Int) (hx : At w p (u8s x)) (hy : At w q (u8s y)) (hl : x.length = y.length) (bx : Bs x) (by_ : Bs y) :
    (Extern.BytealgCompare.compare #[.slice (some p) x.length c, .slice (some q) y.length d]).run P w = .ok (.int .i64 (cmp x y)) w := by
  have cells : ∀ {z : List Int} {r : Addr}, At w r (u8s z) → ∀ j u, z[j]? = some u → w.cell? (r.add j) = some (.int .u8 u) := fun h j u hu => h j _ (by rw [u8s, List.getElem?_map, hu]; rfl)
  have h1 := Lib.run_loadBytesX (P := P) w x p .empty (cells hx)
  have h2 := Lib.run_loadBytesX (P := P) w y q .empty (cells hy)
  have he : ∀ l : List UInt8, (⟨ByteArray.empty.data ++ l.toArray⟩ : ByteArray) = ⟨l.toArray⟩ := fun l => by
    apply ByteArray.ext
    show (#[] : Array UInt8) ++ l.toArray = l.toArray
    simp
  rw [he] at h1 h2
  change Sem.run P (do pure (goInt (Extern.BytealgCompare.cmp (← Extern.Bytes.bytesOf (.slice (some p) x.length c)) (← Extern.Bytes.bytesOf (.slice (some q) y.length d))))) w = _
  simp only [Extern.Bytes.bytesOf, Sem.run_bind, Sem.run_pure, h1, h2, Result.andThen]
  rw [Lib.cmp_eq]
  simp only [compare_cmp hl bx by_]
  rfl

theorem bytes_compare (w : World) (p q : Addr) (x y : List Int) (hx : At w p (u8s x)) (hy : At w q (u8s y)) (lx : IdOk x) (ly : IdOk y) :
    Calls Tryz.prog 119 #[.slice (some p) 32 32, .slice (some q) 32 32] w fun e w' => e = .returned (.int .i64 (cmp x y)) ∧ w' = w := by
  have h := run_compare (P := Tryz.prog) w p q 32 32 x y hx hy (lx.len.trans ly.len.symm) lx.bytes ly.bytes
  rw [lx.len, ly.len] at h
  have h133 := @run_callFunc_extern Tryz.prog 151 _ Extern.BytealgCompare.compare Tryz.func151 (by kernel_rfl) (by kernel_rfl) (by kernel_rfl) (by kernel_rfl)
  go_enter Tryz.func119, Tryz.ntmps119
  go_wp2
  go_ret
  exact ⟨rfl, rfl⟩
theorem info29 : (Tryz.prog.info? 29).map (·.size) = some 32 := by kernel_rfl
theorem info33 : (Tryz.prog.info? 33).map (·.size) = some 65 := by kernel_rfl

/-- digest.Compare. -/
theorem digest_compare (w : World) (x y : List Int) (lx : IdOk x) (ly : IdOk y) :
    Calls Tryz.prog 75 #[idv x, idv y] w fun e w' => e = .returned (.int .i64 (cmp x y)) ∧ Below w.heap.size w w' := by
  have h1 : At ((w.alloc (.cells (u8s x).toArray 29)).alloc (.cells (u8s y).toArray 29)).drew ⟨w.heap.size, 0, none⟩ (u8s x) :=
    (((At.new w (u8s x) 29).below (below_alloc (Below.refl _ _) _)).move rfl)
  have h2 : At ((w.alloc (.cells (u8s x).toArray 29)).alloc (.cells (u8s y).toArray 29)).drew ⟨w.heap.size + 1, 0, none⟩ (u8s y) := by
    have := (At.new (w.alloc (.cells (u8s x).toArray 29)) (u8s y) 29)
    have e : (w.alloc (.cells (u8s x).toArray 29)).heap.size = w.heap.size + 1 := by simp
    rw [e] at this
    exact this.move rfl
  unfold idv
  go_enter Tryz.func75, Tryz.ntmps75
  go_wp2
  go_region_with (go_at_call 119; refine (bytes_compare _ _ _ x y ?_ ?_ lx ly).mono ?_; exact h1; exact h2; rintro e w' ⟨rfl, rfl⟩)
  all_goals (try go_wp2)
  all_goals (go_ret; exact ⟨rfl, (below_alloc (below_alloc (Below.refl _ _) _) _).drew⟩)
end Go.Proofs.YtdekmeanlcpenaaGreatDoor.Mid

namespace Go.Proofs.YtdekmeanlcpenaaGreatDoor.Mid
open Go.RowKit Go.Proofs.YtdekmeanlcpenaaGreatDoorW.PrintWords

theorem below_true (w : World) (x y : List Int) (lx : IdOk x) (ly : IdOk y) :
    Calls Tryz.prog 74 #[idv x, idv y] w fun e w' => e = .returned (.bool (decide (cmp x y < 0))) ∧ Below w.heap.size w w' := by
  have h1 : At ((w.alloc (.cells (u8s x).toArray 29)).alloc (.cells (u8s y).toArray 29)).drew ⟨w.heap.size, 0, none⟩ (u8s x) :=
    (((At.new w (u8s x) 29).below (below_alloc (Below.refl _ _) _)).move rfl)
  have h2 : At ((w.alloc (.cells (u8s x).toArray 29)).alloc (.cells (u8s y).toArray 29)).drew ⟨w.heap.size + 1, 0, none⟩ (u8s y) := by
    have := (At.new (w.alloc (.cells (u8s x).toArray 29)) (u8s y) 29)
    have e : (w.alloc (.cells (u8s x).toArray 29)).heap.size = w.heap.size + 1 := by simp
    rw [e] at this
    exact this.move rfl
  unfold idv
  go_enter Tryz.func74, Tryz.ntmps74
  go_wp2
  go_region_with (go_at_call 119; refine (bytes_compare _ _ _ x y ?_ ?_ lx ly).mono ?_; exact h1; exact h2; rintro e w' ⟨rfl, rfl⟩)
  all_goals (try go_wp2)
  all_goals (go_ret; exact ⟨rfl, (below_alloc (below_alloc (Below.refl _ _) _) _).drew⟩)

theorem fits_any (w : World) (r : Res) (hr : ResOk r) : Calls Tryz.prog 73 #[resv r] w fun e w' => e = .returned (.bool (decide (0 ≤ r.code) && decide (r.code ≤ 255))) ∧ Below w.heap.size w w' := by
  have h1 : (w.alloc (.cells (resC r).toArray 33)).cell? ⟨w.heap.size, 64, none⟩ = some (.int .i64 r.code) := by
    have := res_code hr (At.new w (resC r) 33)
    rwa [Addr.add_mid] at this
  unfold resv
  by_cases hc : 0 ≤ r.code
  · go_enter Tryz.func73, Tryz.ntmps73
    go_wp2
    go_ret
    exact ⟨by simp [hc], below_alloc (Below.refl _ _) _⟩
  · have hd : decide (0 ≤ r.code) = false := by simpa using hc
    clear hc
    go_enter Tryz.func73, Tryz.ntmps73
    go_wp2
    go_ret
    exact ⟨by simp [hd], below_alloc (Below.refl _ _) _⟩

/-- Behind i bytes that are alike. -/
def Alk (x y : List Int) (i : Nat) : Prop := cmp x y = cmp (x.drop i) (y.drop i)
theorem alk_step {x y : List Int} {i : Nat} {a b : Int} (h : Alk x y i) (ha : x[i]? = some a) (hb : y[i]? = some b) (hn1 : ¬ a < b) (hn2 : ¬ b < a) : Alk x y (i + 1) := by
  unfold Alk at h ⊢
  have la := (List.getElem?_eq_some_iff.1 ha)
  have lb := (List.getElem?_eq_some_iff.1 hb)
  rw [h, List.drop_eq_getElem_cons la.1, List.drop_eq_getElem_cons lb.1, la.2, lb.2, cmp, if_neg hn1, if_neg hn2]
theorem alk_lt {x y : List Int} {i : Nat} {a b : Int} (h : Alk x y i) (ha : x[i]? = some a) (hb : y[i]? = some b) (hn1 : a < b) : cmp x y = -1 := by
  unfold Alk at h
  have la := (List.getElem?_eq_some_iff.1 ha)
  have lb := (List.getElem?_eq_some_iff.1 hb)
  rw [h, List.drop_eq_getElem_cons la.1, List.drop_eq_getElem_cons lb.1, la.2, lb.2, cmp, if_pos hn1]
theorem alk_gt {x y : List Int} {i : Nat} {a b : Int} (h : Alk x y i) (ha : x[i]? = some a) (hb : y[i]? = some b) (hn2 : b < a) : cmp x y = 1 := by
  unfold Alk at h
  have la := (List.getElem?_eq_some_iff.1 ha)
  have lb := (List.getElem?_eq_some_iff.1 hb)
  rw [h, List.drop_eq_getElem_cons la.1, List.drop_eq_getElem_cons lb.1, la.2, lb.2, cmp, if_neg (by omega), if_pos hn2]
theorem alk_end {x y : List Int} {i : Nat} (h : Alk x y i) (hx : x.length ≤ i) : cmp x y = 0 := by
  unfold Alk at h
  rw [h, List.drop_of_length_le hx]
  cases y.drop i <;> rfl
theorem At.u8 {w : World} {p : Addr} {x : List Int} (h : At w p (u8s x)) {i : Nat} {a : Int} (ha : x[i]? = some a) : w.cell? (p.add i) = some (.int .u8 a) := h i _ (by rw [u8s, List.getElem?_map, ha]; rfl)

set_option maxHeartbeats 1000000 in
theorem order_any (w : World) (x y : List Int) (lx : IdOk x) (ly : IdOk y) :
    Calls Tryz.prog 72 #[idv x, idv y] w fun e w' => e = .returned (.int .i64 (cmp x y)) ∧ Below w.heap.size w w' := by
  obtain ⟨W, hW⟩ : ∃ W, W = (w.alloc (.cells (u8s x).toArray 29)).alloc (.cells (u8s y).toArray 29) := ⟨_, rfl⟩
  have h1 : At W ⟨w.heap.size, 0, none⟩ (u8s x) := hW ▸ ((At.new w (u8s x) 29).below (below_alloc (Below.refl _ _) _))
  have h2 : At W ⟨w.heap.size + 1, 0, none⟩ (u8s y) := by
    have := (At.new (w.alloc (.cells (u8s x).toArray 29)) (u8s y) 29)
    have e : (w.alloc (.cells (u8s x).toArray 29)).heap.size = w.heap.size + 1 := by simp
    rw [e] at this
    exact hW ▸ this
  have HB : Aside0 (Below w.heap.size w W) := ⟨hW ▸ (below_alloc (below_alloc (Below.refl _ _) _) _)⟩
  have H1 := Aside0.mk h1
  have H2 := Aside0.mk h2
  have HX := Aside0.mk lx
  have HY := Aside0.mk ly
  have HW := Aside0.mk hW
  clear h1 h2 hW lx ly
  unfold idv
  go_enter Tryz.func72, Tryz.ntmps72
  go_wp2
  rw [← HW.out]
  go_loopg [5] 32 (fun k v5 w' => ∃ i : Nat, v5 = .int .i64 i ∧ i + k = 32 ∧ Aside0 (Alk x y i) ∧ Aside0 (Drawn0 W w'))
  case atStart => exact ⟨0, rfl, rfl, ⟨rfl⟩, ⟨Drawn0.refl _⟩⟩
  case round =>
    obtain ⟨i, rfl, hik, HA, HD⟩ := hrel
    cases gk with
    | zero =>
      have hd : decide ((i : Int) < 32) = false := by simp; omega
      have hi : Aside0 (i = 32) := ⟨by omega⟩
      clear hik
      go_wp2
      go_ret
      exact ⟨by rw [alk_end HA.out (by rw [HX.out.len, hi.out]; exact Nat.le_refl _)]; rfl, HB.out.trans ((HD.out.below).mono HB.out.size)⟩
    | succ k =>
      have hi : i < 32 := by omega
      have hi1 : (i : Int) < 32 := by omega
      obtain ⟨a, ha⟩ : ∃ a, x[i]? = some a := ⟨_, List.getElem?_eq_getElem (by rw [HX.out.len]; exact hi)⟩
      obtain ⟨b, hb⟩ : ∃ b, y[i]? = some b := ⟨_, List.getElem?_eq_getElem (by rw [HY.out.len]; exact hi)⟩
      have c1 := (H1.out.below HD.out.below).u8 ha
      have c2 := (H2.out.below HD.out.below).u8 hb
      rw [Addr.add_mid, Nat.zero_add] at c1 c2
      have HA1 := Aside0.mk ha
      have HB1 := Aside0.mk hb
      clear ha hb
      by_cases hlt : a < b
      · go_wp2
        go_quiet (fail)
        go_wp2
        go_ret
        exact ⟨by rw [alk_lt HA.out HA1.out HB1.out hlt]; rfl, HB.out.trans (((HD.out.step _).below).mono HB.out.size)⟩
      · have d1 : decide (a < b) = false := by simpa using hlt
        by_cases hgt : b < a
        · go_wp2
          go_quiet (fail)
          go_wp2
          go_quiet (fail)
          go_wp2
          go_ret
          exact ⟨by rw [alk_gt HA.out HA1.out HB1.out hgt]; rfl, HB.out.trans ((((HD.out.step _).step _).below).mono HB.out.size)⟩
        · have d2 : decide (b < a) = false := by simpa using hgt
          go_wp2
          go_quiet (fail)
          go_wp2
          go_quiet (fail)
          go_wp2
          go_roundg k
          case measure => omega
          case rel => exact ⟨i + 1, by go_num, by omega, ⟨alk_step HA.out HA1.out HB1.out (by omega) (by omega)⟩, ⟨HD.out.step _⟩⟩
set_option maxHeartbeats 1000000 in
theorem compare_any (w : World) (x y : List Int) (lx : IdOk x) (ly : IdOk y) :
    Calls Tryz.prog 30 #[idv x, idv y] w fun e w' => e = .returned (.int .i64 (cmp x y)) ∧ Below w.heap.size w w' := by
  obtain ⟨W, hW⟩ : ∃ W, W = (w.alloc (.cells (u8s x).toArray 29)).alloc (.cells (u8s y).toArray 29) := ⟨_, rfl⟩
  have h1 : At W ⟨w.heap.size, 0, none⟩ (u8s x) := hW ▸ ((At.new w (u8s x) 29).below (below_alloc (Below.refl _ _) _))
  have h2 : At W ⟨w.heap.size + 1, 0, none⟩ (u8s y) := by
    have := (At.new (w.alloc (.cells (u8s x).toArray 29)) (u8s y) 29)
    have e : (w.alloc (.cells (u8s x).toArray 29)).heap.size = w.heap.size + 1 := by simp
    rw [e] at this
    exact hW ▸ this
  have HB : Aside0 (Below w.heap.size w W) := ⟨hW ▸ (below_alloc (below_alloc (Below.refl _ _) _) _)⟩
  have H1 := Aside0.mk h1
  have H2 := Aside0.mk h2
  have HX := Aside0.mk lx
  have HY := Aside0.mk ly
  have HW := Aside0.mk hW
  clear h1 h2 hW lx ly
  unfold idv
  go_enter Tryz.func30, Tryz.ntmps30
  go_wp2
  rw [← HW.out]
  go_loopg [5] 32 (fun k v5 w' => ∃ i : Nat, v5 = .int .i64 i ∧ i + k = 32 ∧ Aside0 (Alk x y i) ∧ Aside0 (Drawn0 W w'))
  case atStart => exact ⟨0, rfl, rfl, ⟨rfl⟩, ⟨Drawn0.refl _⟩⟩
  case round =>
    obtain ⟨i, rfl, hik, HA, HD⟩ := hrel
    cases gk with
    | zero =>
      have hd : decide ((i : Int) < 32) = false := by simp; omega
      have hi : Aside0 (i = 32) := ⟨by omega⟩
      clear hik
      go_wp2
      go_ret
      exact ⟨by rw [alk_end HA.out (by rw [HX.out.len, hi.out]; exact Nat.le_refl _)]; rfl, HB.out.trans ((HD.out.below).mono HB.out.size)⟩
    | succ k =>
      have hi : i < 32 := by omega
      have hi1 : (i : Int) < 32 := by omega
      obtain ⟨a, ha⟩ : ∃ a, x[i]? = some a := ⟨_, List.getElem?_eq_getElem (by rw [HX.out.len]; exact hi)⟩
      obtain ⟨b, hb⟩ : ∃ b, y[i]? = some b := ⟨_, List.getElem?_eq_getElem (by rw [HY.out.len]; exact hi)⟩
      have c1 := (H1.out.below HD.out.below).u8 ha
      have c2 := (H2.out.below HD.out.below).u8 hb
      rw [Addr.add_mid, Nat.zero_add] at c1 c2
      have HA1 := Aside0.mk ha
      have HB1 := Aside0.mk hb
      clear ha hb
      by_cases hlt : a < b
      · go_wp2
        go_quiet (fail)
        go_wp2
        go_ret
        exact ⟨by rw [alk_lt HA.out HA1.out HB1.out hlt]; rfl, HB.out.trans (((HD.out.step _).below).mono HB.out.size)⟩
      · have d1 : decide (a < b) = false := by simpa using hlt
        by_cases hgt : b < a
        · go_wp2
          go_quiet (fail)
          go_wp2
          go_quiet (fail)
          go_wp2
          go_ret
          exact ⟨by rw [alk_gt HA.out HA1.out HB1.out hgt]; rfl, HB.out.trans ((((HD.out.step _).step _).below).mono HB.out.size)⟩
        · have d2 : decide (b < a) = false := by simpa using hgt
          go_wp2
          go_quiet (fail)
          go_wp2
          go_quiet (fail)
          go_wp2
          go_roundg k
          case measure => omega
          case rel => exact ⟨i + 1, by go_num, by omega, ⟨alk_step HA.out HA1.out HB1.out (by omega) (by omega)⟩, ⟨HD.out.step _⟩⟩
end Go.Proofs.YtdekmeanlcpenaaGreatDoor.Mid

namespace Go.Proofs.YtdekmeanlcpenaaGreatDoor.Mid

theorem idv_inj {x y : List Int} (h : idv x = idv y) : x = y := by
  have h1 : (u8s x).toArray = (u8s y).toArray := by injection h
  exact u8s_inj (by simpa using congrArg Array.toList h1)

/-- The keys behind i of the actions. -/
def Asked (qas : List (List Int)) (i : Nat) (ks : List Value) : Prop := ∀ v, v ∈ ks ↔ ∃ a ∈ qas.take i, v = idv a
theorem asked_none (qas : List (List Int)) : Asked qas 0 [] := fun v => by simp
theorem asked_step {qas : List (List Int)} {i : Nat} {a : List Int} {ks ks1 : List Value} (h : Asked qas i ks) (ha : qas[i]? = some a) (h1 : ∀ v, v ∈ ks1 ↔ v ∈ ks ∨ v = idv a) : Asked qas (i + 1) ks1 := by
  intro v
  rw [h1, h v, List.take_add_one, ha]
  constructor
  · rintro (⟨b, hb, rfl⟩ | rfl)
    · exact ⟨b, List.mem_append_left _ hb, rfl⟩
    · exact ⟨a, by simp, rfl⟩
  · rintro ⟨b, hb, rfl⟩
    rcases List.mem_append.1 hb with hb | hb
    · exact .inl ⟨b, hb, rfl⟩
    · simp at hb
      exact .inr (by rw [hb])
/-- The keys behind i of the results. -/
def Remn (rs : List Res) (qas : List (List Int)) (i : Nat) (ks : List Value) : Prop := ∀ v, v ∈ ks ↔ ∃ a, v = idv a ∧ a ∈ qas ∧ ∀ r ∈ rs.take i, r.act ≠ a
theorem left_of_asked {rs : List Res} {qas : List (List Int)} {n : Nat} {ks : List Value} (h : Asked qas n ks) (hn : qas.length ≤ n) : Remn rs qas 0 ks := by
  intro v
  rw [h v, List.take_of_length_le hn]
  exact ⟨fun ⟨a, ha, e⟩ => ⟨a, e, ha, by simp⟩, fun ⟨a, e, ha, _⟩ => ⟨a, ha, e⟩⟩
section
variable {rs : List Res} {qas : List (List Int)} {i : Nat} {r : Res} {ks ks1 : List Value}
theorem left_look (T : Table rs) (ok : ∀ r ∈ rs, ResOk r) (h : Remn rs qas i ks) (hr : rs[i]? = some r) : idv r.act ∈ ks ↔ r.act ∈ qas := by
  rw [h]
  constructor
  · rintro ⟨a, e, ha, _⟩
    rw [idv_inj e]; exact ha
  · intro ha
    refine ⟨r.act, rfl, ha, fun s hs e => ?_⟩
    obtain ⟨j, hj⟩ := List.mem_iff_getElem?.1 hs
    rw [List.getElem?_take] at hj
    split at hj
    · have := T.once ok hj hr e; omega
    · cases hj
theorem left_in (h : Remn rs qas i ks) (hr : rs[i]? = some r) (h1 : ∀ v, v ∈ ks1 ↔ v ∈ ks ∧ v ≠ idv r.act) : Remn rs qas (i + 1) ks1 := by
  intro v
  rw [h1, h v, List.take_add_one, hr]
  constructor
  · rintro ⟨⟨a, rfl, ha, hn⟩, hne⟩
    refine ⟨a, rfl, ha, fun s hs => ?_⟩
    rcases List.mem_append.1 hs with hs | hs
    · exact hn s hs
    · simp at hs
      subst hs
      exact fun e => hne (by rw [e])
  · rintro ⟨a, rfl, ha, hn⟩
    refine ⟨⟨a, rfl, ha, fun s hs => hn s (List.mem_append_left _ hs)⟩, fun e => ?_⟩
    exact hn r (by simp) (idv_inj e).symm
theorem left_out (h : Remn rs qas i ks) (hr : rs[i]? = some r) (hne : r.act ∉ qas) : Remn rs qas (i + 1) ks := by
  intro v
  rw [h v, List.take_add_one, hr]
  constructor
  · rintro ⟨a, rfl, ha, hn⟩
    refine ⟨a, rfl, ha, fun s hs => ?_⟩
    rcases List.mem_append.1 hs with hs | hs
    · exact hn s hs
    · simp at hs
      subst hs
      exact fun e => hne (by rw [e]; exact ha)
  · rintro ⟨a, rfl, ha, hn⟩
    exact ⟨a, rfl, ha, fun s hs => hn s (List.mem_append_left _ hs)⟩
theorem left_end (h : Remn rs qas i ks) (hi : rs.length ≤ i) (a : List Int) : idv a ∈ ks ↔ Lacks rs qas a := by
  rw [h, List.take_of_length_le hi]
  constructor
  · rintro ⟨b, e, hb, hn⟩
    rw [idv_inj e]; exact ⟨hb, hn⟩
  · rintro ⟨hb, hn⟩
    exact ⟨a, rfl, hb, hn⟩
theorem pick_in (hr : rs[i]? = some r) (ha : r.act ∈ qas) : pickS (rs.take (i + 1)) qas = pickS (rs.take i) qas ++ [r] := by
  rw [pickS, List.take_add_one, hr, List.filter_append]
  simp [pickS, ha]
theorem pick_out (hr : rs[i]? = some r) (ha : r.act ∉ qas) : pickS (rs.take (i + 1)) qas = pickS (rs.take i) qas := by
  rw [pickS, List.take_add_one, hr, List.filter_append]
  simp [pickS, ha]
theorem pick_all (hi : rs.length ≤ i) : pickS (rs.take i) qas = pickS rs qas := by rw [List.take_of_length_le hi]
theorem pick_length : (pickS rs qas).length ≤ rs.length := List.length_filter_le ..
theorem pick_ok (ok : ∀ r ∈ rs, ResOk r) : ∀ r ∈ pickS rs qas, ResOk r := fun r hr => ok r (List.mem_filter.1 hr).1
end

/-- What the last loop knows: which keys it has seen, whether there was one, and the least of them. -/
structure Sought (ks left : List Value) (first : Bool) (least : List Int) : Prop where
  none : first = true → (∀ v ∈ ks, v ∈ left) ∧ least = List.replicate 32 0
  some : first = false → Least (fun a => idv a ∈ ks ∧ idv a ∉ left) least
theorem sought_start (ks : List Value) : Sought ks ks true (List.replicate 32 0) := ⟨fun _ => ⟨fun _ h => h, rfl⟩, fun h => by cases h⟩
theorem sought_step {ks left left1 : List Value} {first : Bool} {least a : List Int} (hk : ∀ b, idv b ∈ ks → IdOk b) (hla : idv a ∈ ks) (h : Sought ks left first least) (h1 : ∀ v, v ∈ left1 ↔ v ∈ left ∧ v ≠ idv a) :
    Sought ks left1 false (if first = true ∨ cmp a least < 0 then a else least) := by
  refine ⟨fun h => (by cases h), fun _ => ?_⟩
  have new : ∀ b, (idv b ∈ ks ∧ idv b ∉ left1) ↔ (idv b ∈ ks ∧ idv b ∉ left) ∨ b = a := by
    intro b
    rw [h1]
    constructor
    · rintro ⟨hb, hn⟩
      by_cases hba : idv b = idv a
      · exact .inr (idv_inj hba)
      · exact .inl ⟨hb, fun hl => hn ⟨hl, hba⟩⟩
    · rintro (⟨hb, hn⟩ | rfl)
      · exact ⟨hb, fun hl => hn hl.1⟩
      · exact ⟨hla, fun hl => hl.2 rfl⟩
  cases first with
  | true =>
    rw [if_pos (.inl rfl)]
    refine ⟨(new a).2 (.inr rfl), fun b hb => ?_⟩
    rcases (new b).1 hb with ⟨hb1, hb2⟩ | rfl
    · exact absurd ((h.none rfl).1 _ hb1) hb2
    · rw [cmp_self]; decide
  | false =>
    have hL := h.some rfl
    by_cases hc : cmp a least < 0
    · rw [if_pos (.inr hc)]
      refine ⟨(new a).2 (.inr rfl), fun b hb => ?_⟩
      rcases (new b).1 hb with hb1 | rfl
      · have l1 := (hk a hla).len
        have l2 := (hk _ hL.1.1).len
        have l3 := (hk _ hb1.1).len
        exact cmp_trans (y := least) (by omega) (by omega) (by omega) (hL.2 b hb1)
      · rw [cmp_self]; decide
    · rw [if_neg (by simp [hc])]
      refine ⟨(new least).2 (.inl hL.1), fun b hb => ?_⟩
      rcases (new b).1 hb with hb1 | rfl
      · exact hL.2 b hb1
      · rw [cmp_anti]
        have := cmp_vals b least
        omega
theorem sought_end {ks : List Value} {first : Bool} {least : List Int} (h : Sought ks [] first least) : (first = true → (∀ a, idv a ∉ ks) ∧ least = List.replicate 32 0) ∧ (first = false → Least (fun a => idv a ∈ ks) least) := by
  refine ⟨fun hf => ⟨fun a ha => by simpa using (h.none hf).1 _ ha, (h.none hf).2⟩, fun hf => ?_⟩
  have := h.some hf
  simpa using this
end Go.Proofs.YtdekmeanlcpenaaGreatDoor.Mid

namespace Go.Proofs.YtdekmeanlcpenaaGreatDoor.Mid
open Go.RowKit Go.Proofs.YtdekmeanlcpenaaGreatDoorW.PrintWords

theorem laidOut : laidOutB Tryz.prog = true := by kernel_rfl
theorem K29 : Go.Maps.Keyed Tryz.prog 29 := Go.Maps.Keyed.of_law (deep_law_laid laidOut (m := 4) (by decide) (of_decide_eq_true (by kernel_rfl)) (by kernel_rfl) (by kernel_rfl))
theorem K33 : Go.Maps.Keyed Tryz.prog 33 := Go.Maps.Keyed.of_law (deep_law_laid laidOut (m := 4) (by decide) (of_decide_eq_true (by kernel_rfl)) (by kernel_rfl) (by kernel_rfl))
theorem c29 : Tryz.prog.cellsOf 29 = 32 := by kernel_rfl
theorem c33 : Tryz.prog.cellsOf 33 = 65 := by kernel_rfl
theorem c5 : Tryz.prog.cellsOf 5 = 1 := by kernel_rfl
theorem c3 : Tryz.prog.cellsOf 3 = 1 := by kernel_rfl
theorem typesMany : decide (3 ≤ Tryz.prog.types.size) = true := by kernel_rfl
theorem typesSome : ∃ m, Tryz.prog.types.size + 1 = m + 4 := ⟨Tryz.prog.types.size - 3, by have := of_decide_eq_true typesMany; omega⟩
theorem keyT29 : Tryz.prog.keyType 29 = true := by kernel_rfl
theorem keyT33 : Tryz.prog.keyType 33 = true := by kernel_rfl
theorem keyOf_id {x : List Int} (h : IdOk x) : ∃ l, keyOf Tryz.prog 29 (idv x) = some l := by
  obtain ⟨m, hm⟩ := typesSome
  have hk := keyLits_u8s (P := Tryz.prog) (d := m + 2) Tryz.underlying29 Tryz.underlying5 c5 c29 h.len h.bytes
  refine ⟨.string (keyBytes (x.map (Lit.int .u8))), ?_⟩
  unfold keyOf idv
  simp only [Tryz.underlying29]
  rw [if_pos (by simp [keyT29, Value.formed, Tryz.underlying29, c29, u8s_length, h.len]), hm]
  simp only [Value.cells]
  rw [hk]
  rfl
theorem eq29 (w : World) (x y : List Int) (hx : IdOk x) (hy : IdOk y) : (Op.equal 29 (idv x) (idv y)).run Tryz.prog w = .ok (decide (x = y)) w := by
  obtain ⟨lx, ex⟩ := keyOf_id hx
  obtain ⟨ly, ey⟩ := keyOf_id hy
  obtain ⟨r, h1, h2⟩ := run_equal_deep (P := Tryz.prog) w (m := 4) (by decide) (k := 29) (by kernel_rfl) (by kernel_rfl) ex ey
  have h3 : (r = true) ↔ x = y := h2.trans ⟨fun e => idv_inj (K29.inj ex (by rw [ey, e])), fun e => by subst e; exact Option.some.inj (ex.symm.trans ey)⟩
  have h4 : r = decide (x = y) := by cases r <;> simp_all
  rw [← h4]
  exact h1

theorem resC_act {r : Res} (h : ResOk r) : ((resC r).drop 0).take 32 = u8s r.act := by
  rw [List.drop_zero, resC, List.take_append_of_le_length (by rw [u8s_length, h.act.len]; exact Nat.le_refl _), List.take_of_length_le (by rw [u8s_length, h.act.len]; exact Nat.le_refl _)]
theorem resC_root {r : Res} (h : ResOk r) : ((resC r).drop 32).take 32 = u8s r.root := by
  have ha : (u8s r.act).length = 32 := by rw [u8s_length, h.act.len]
  have hb : (u8s r.root).length = 32 := by rw [u8s_length, h.root.len]
  rw [resC, List.drop_append_of_le_length (by omega), List.drop_of_length_le (by omega), List.nil_append, List.take_append_of_le_length (by omega), List.take_of_length_le (by omega)]
theorem resC_code {r : Res} (h : ResOk r) : ((resC r).drop 64).take 1 = [.int .i64 r.code] := by
  have ha : (u8s r.act).length = 32 := by rw [u8s_length, h.act.len]
  have hb : (u8s r.root).length = 32 := by rw [u8s_length, h.root.len]
  have : resC r = (u8s r.act ++ u8s r.root) ++ [.int .i64 r.code] := by rw [resC, List.append_assoc]
  rw [this, List.drop_append_of_le_length (by rw [List.length_append]; omega), List.drop_of_length_le (by rw [List.length_append]; omega)]
  rfl
theorem wf_i64' {n : Int} (h : -9223372036854775808 ≤ n ∧ n ≤ 9223372036854775807) : (Lit.int .i64 n).wf = true := by
  have h1 : IntKind.i64.min = -9223372036854775808 := rfl
  have h2 : IntKind.i64.max = 9223372036854775807 := rfl
  simp [Lit.wf, h1, h2]; omega
theorem keyOf_res {r : Res} (h : ResOk r) : ∃ l, keyOf Tryz.prog 33 (resv r) = some l := by
  obtain ⟨m, hm⟩ := typesSome
  have h1 := keyLits_u8s (P := Tryz.prog) (d := m + 1) Tryz.underlying29 Tryz.underlying5 c5 c29 h.act.len h.act.bytes
  have h2 := keyLits_u8s (P := Tryz.prog) (d := m + 1) Tryz.underlying29 Tryz.underlying5 c5 c29 h.root.len h.root.bytes
  have h3 : Tryz.prog.keyLits (m + 3) 3 [.int .i64 r.code] = some [.int .i64 r.code] := by
    unfold Program.keyLits
    simp only [Tryz.underlying3]
    rw [if_pos ⟨trivial, wf_i64' h.code⟩]
  have hk : Tryz.prog.keyLits (m + 4) 33 (resC r) = some (r.act.map (Lit.int .u8) ++ (r.root.map (Lit.int .u8) ++ [.int .i64 r.code])) := by
    unfold Program.keyLits
    simp only [Tryz.underlying33]
    rw [if_pos ⟨by rw [resC_length h, c33], by simp⟩]
    simp only [List.mapM_cons, List.mapM_nil, c29, c3, resC_act h, resC_root h, resC_code h]
    simp [h1, h2, h3]
  refine ⟨.string (keyBytes (r.act.map (Lit.int .u8) ++ (r.root.map (Lit.int .u8) ++ [.int .i64 r.code]))), ?_⟩
  unfold keyOf resv
  simp only [Tryz.underlying33]
  rw [if_pos (by simp [keyT33, Value.formed, Tryz.underlying33, c33, resC_length h]), hm]
  simp only [Value.cells]
  rw [hk]
  rfl
theorem resC_inj {r s : Res} (hr : ResOk r) (hs : ResOk s) (h : resC r = resC s) : r = s := by
  have h1 := congrArg (fun l => (l.drop 0).take 32) h
  have h2 := congrArg (fun l => (l.drop 32).take 32) h
  have h3 := congrArg (fun l => (l.drop 64).take 1) h
  simp only [resC_act hr, resC_act hs, resC_root hr, resC_root hs, resC_code hr, resC_code hs] at h1 h2 h3
  have e1 := u8s_inj h1
  have e2 := u8s_inj h2
  have e3 : r.code = s.code := by
    injection h3 with h3
    injection h3
  cases r; cases s; simp_all
theorem eq33 (w : World) (r s : Res) (hr : ResOk r) (hs : ResOk s) : (Op.equal 33 (resv r) (resv s)).run Tryz.prog w = .ok (decide (r = s)) w := by
  obtain ⟨lx, ex⟩ := keyOf_res hr
  obtain ⟨ly, ey⟩ := keyOf_res hs
  obtain ⟨q, h1, h2⟩ := run_equal_deep (P := Tryz.prog) w (m := 4) (by decide) (k := 33) (by kernel_rfl) (by kernel_rfl) ex ey
  have h3 : (q = true) ↔ r = s := h2.trans ⟨fun e => by
    have := K33.inj ex (by rw [ey, e])
    have h5 : (resC r).toArray = (resC s).toArray := by injection this
    exact resC_inj hr hs (by simpa using congrArg Array.toList h5), fun e => by
    subst e
    exact Option.some.inj (ex.symm.trans ey)⟩
  have h4 : q = decide (r = s) := by
    by_cases h : r = s
    · rw [h3.2 h, decide_eq_true h]
    · rw [decide_eq_false h]
      cases q
      · rfl
      · exact absurd (h3.1 rfl) h
  rw [← h4]
  exact h1
end Go.Proofs.YtdekmeanlcpenaaGreatDoor.Mid

namespace Go.Proofs.YtdekmeanlcpenaaGreatDoor.Mid
open Go.RowKit Go.Proofs.YtdekmeanlcpenaaGreatDoorW.PrintWords

/-- The n cells from p on, if they are all there. -/
def rowOf (w : World) (p : Addr) (n : Nat) : Option (List Value) := (List.range n).mapM fun j => w.cell? (p.add j)
theorem rowOf_eq {w : World} {p : Addr} {n : Nat} {cs : List Value} (h : rowOf w p n = some cs) : At w p cs ∧ cs.length = n := by
  unfold rowOf at h
  have key : ∀ (l : List Nat) (cs : List Value), l.mapM (fun j => w.cell? (p.add j)) = some cs → cs.length = l.length ∧ ∀ (i : Nat) j v, l[i]? = some j → cs[i]? = some v → w.cell? (p.add j) = some v := by
    intro l
    induction l with
    | nil => intro cs h; simp at h; subst h; simp
    | cons a l ih =>
      intro cs h
      rw [List.mapM_cons] at h
      cases ha : w.cell? (p.add a) with
      | none => simp [ha] at h
      | some v =>
        cases hl : l.mapM (fun j => w.cell? (p.add j)) with
        | none => simp [ha, hl] at h
        | some vs =>
          simp [ha, hl] at h
          subst h
          obtain ⟨h1, h2⟩ := ih vs hl
          refine ⟨by simp [h1], fun i j u hi hu => ?_⟩
          cases i with
          | zero => simp at hi hu; subst hi hu; exact ha
          | succ i => exact h2 i j u (by simpa using hi) (by simpa using hu)
  obtain ⟨h1, h2⟩ := key _ _ h
  rw [List.length_range] at h1
  exact ⟨fun j v hv => h2 j j v (by have := (List.getElem?_eq_some_iff.1 hv).1; rw [List.getElem?_range (by omega)]) hv, h1⟩
theorem At.row {w : World} {p : Addr} {n : Nat} {cs : List Value} (h : At w p cs) (hn : cs.length = n) : rowOf w p n = some cs := by
  subst hn
  unfold rowOf
  rw [mapM_some (g := fun j => cs.getD j undef)]
  · congr 1
    apply List.ext_getElem?
    intro i
    rw [List.getElem?_map]
    by_cases hi : i < cs.length
    · rw [List.getElem?_range hi, List.getElem?_eq_getElem hi]
      simp [List.getD_eq_getElem?_getD, List.getElem?_eq_getElem hi]
    · rw [List.getElem?_eq_none (by simpa using hi), List.getElem?_eq_none (by simpa using hi)]
      rfl
  · intro j hj
    have hj' : j < cs.length := List.mem_range.1 hj
    refine h j _ ?_
    rw [List.getD_eq_getElem?_getD, List.getElem?_eq_getElem hj']
    rfl
theorem rowOf_drew (w : World) (p : Addr) (n : Nat) : rowOf w.drew p n = rowOf w p n := rfl
theorem rowOf_drewN (w : World) (p : Addr) (n m : Nat) : rowOf (w.drewN m) p n = rowOf w p n := by
  induction m generalizing w with
  | zero => rfl
  | succ m ih => exact (rowOf_drew (w.drewN m) p n).trans (ih w)
/-- A whole row is read. -/
def ldRow (ty : TypeId) (x : Value) : Sem Value := Instr.loadAt ty x
theorem load33_eq (x : Value) : Instr.loadAt 33 x = ldRow 33 x := rfl
theorem load29_eq (x : Value) : Instr.loadAt 29 x = ldRow 29 x := rfl
theorem load33_row (w : World) (p : Addr) : (ldRow 33 (.pointer (some p))).run Tryz.prog w = match rowOf w p 65 with
    | some cs => .ok (.agg cs.toArray) w
    | none => (loadVar 33 p).run Tryz.prog w := by
  unfold ldRow
  cases h : rowOf w p 65 with
  | none => simp only [Instr.loadAt, Instr.sureAddr, Sem.run_bind, Sem.run_pure, Result.andThen_ok]
  | some cs =>
    obtain ⟨h1, h2⟩ := rowOf_eq h
    exact run_load w p 33 cs _ h1 Tryz.underlying33 rfl (by rw [h2]; exact info33)
theorem load29_row (w : World) (p : Addr) : (ldRow 29 (.pointer (some p))).run Tryz.prog w = match rowOf w p 32 with
    | some cs => .ok (.agg cs.toArray) w
    | none => (loadVar 29 p).run Tryz.prog w := by
  unfold ldRow
  cases h : rowOf w p 32 with
  | none => simp only [Instr.loadAt, Instr.sureAddr, Sem.run_bind, Sem.run_pure, Result.andThen_ok]
  | some cs =>
    obtain ⟨h1, h2⟩ := rowOf_eq h
    exact run_load w p 29 cs _ h1 Tryz.underlying29 rfl (by rw [h2]; exact info29)
theorem At.res {w : World} {p : Addr} {r : Res} (hr : ResOk r) (h : At w p (resC r)) : rowOf w p 65 = some (resC r) := h.row (resC_length hr)
theorem At.id {w : World} {p : Addr} {x : List Int} (hx : IdOk x) (h : At w p (u8s x)) : rowOf w p 32 = some (u8s x) := h.row (by rw [u8s_length, hx.len])
theorem z33 : Tryz.zeroCells33.size = 65 := by kernel_rfl
section
variable {ops : Array Oper} {rest : List Oper} {op : Oper} {a : Act} {w : World} {Q : Exit → Act → World → Prop}
theorem store33_new (hgd : op.guard = none) (hd : op.dst = none) (x y : Operand) (ho : op.op = .store 33 x y) (r : Res) (hr : ResOk r) (hx : a.eval x = .pointer (some ⟨w.heap.size, 0, none⟩)) (hy : a.eval y = .agg (resC r).toArray)
    (h : wpList Tryz.prog ops Q rest a (w.alloc (.cells (resC r).toArray 33))) : wpList Tryz.prog ops Q (op :: rest) a (w.alloc (.cells Tryz.zeroCells33 33)) :=
  wpList_store_new hgd 33 x y ho _ (resC r) hx hy (by rw [z33, resC_length hr]) (by rw [resC_length hr]; exact info33) resC_one (by rw [hd]; exact h)
theorem store29_new (hgd : op.guard = none) (hd : op.dst = none) (x y : Operand) (ho : op.op = .store 29 x y) (zs : Array Value) (hz : zs.size = 32) (i : List Int) (hi : IdOk i) (hx : a.eval x = .pointer (some ⟨w.heap.size, 0, none⟩)) (hy : a.eval y = .agg (u8s i).toArray)
    (h : wpList Tryz.prog ops Q rest a (w.alloc (.cells (u8s i).toArray 29))) : wpList Tryz.prog ops Q (op :: rest) a (w.alloc (.cells zs 29)) :=
  wpList_store_new hgd 29 x y ho _ (u8s i) hx hy (by rw [hz, u8s_length, hi.len]) (by rw [u8s_length, hi.len]; exact info29) u8s_one (by rw [hd]; exact h)
end
theorem below_of {w1 w2 w3 : World} {b : Nat} (h : Below b w1 w2) (h2 : Below w2.heap.size w2 w3) (hb : b ≤ w1.heap.size) : Below b w1 w3 := h.trans (h2.mono (Nat.le_trans hb h.size))
theorem At.blk {w : World} {b t : Nat} {cs : List Value} (h : w.heap[b]? = some (.cells cs.toArray t (0, 0))) : At w ⟨b, 0, none⟩ cs := fun j v hv => by
  rw [Addr.add_mid, Nat.zero_add, blk_cell h]
  simpa using hv
section
variable {P : Program} {ops : Array Oper} {rest : List Oper} {op : Oper} {a : Act} {w : World} {Q : Exit → Act → World → Prop} {K : Act → World → Prop}
theorem setCells_blk (w : World) {b t : Nat} {cur : Array Value} (hh : w.heap[b]? = some (.cells cur t (0, 0))) {cs : List Value} (hl : cur.size = cs.length) :
    (w.setCells b 0 cs).heap[b]? = some (.cells cs.toArray t (0, 0)) ∧ w.grownBy (w.setCells b 0 cs) (some b) ∧ (w.setCells b 0 cs).heap.size = w.heap.size := by
  obtain ⟨cur', h3, h4, h5⟩ := setCells_row cs 0 w cur hh (by omega)
  obtain ⟨s1, s2, s3, s4⟩ := setCells_same b cs 0 w
  refine ⟨?_, ⟨s1, s2, s3, by rw [s4]; exact Nat.le_refl _, fun k _ hk => setCells_far _ _ k (fun he => hk (by rw [he]))⟩, s4⟩
  rw [h3]
  congr 2
  rw [← Array.toArray_toList (xs := cur')]
  congr 1
  have : cur'.toList.take (0 + cs.length) = cs := by rw [h5]; simp
  rw [List.take_of_length_le (by simp; omega)] at this
  exact this
/-- A variable that is known whole is stored anew. -/
theorem wp_store_blk (ty : TypeId) (x y : Operand) (ho : op.op = .store ty x y) {b : Nat} {cur : Array Value} (hb : w.heap[b]? = some (.cells cur ty (0, 0))) (cs : List Value) (hx : a.eval x = .pointer (some ⟨b, 0, none⟩)) (hy : a.eval y = .agg cs.toArray)
    (hl : cur.size = cs.length) (hi : (P.info? ty).map (·.size) = some cs.length) (h1 : ∀ v ∈ cs, v.oneCell' = true)
    (h : ∀ w1 : World, w1.heap[b]? = some (.cells cs.toArray ty (0, 0)) → w.grownBy w1 (some b) → w1.heap.size = w.heap.size → K (a.put op.dst undef) w1) : op.wp P a w K Q := by
  refine wp_store_mid ty x y ho b 0 cs.toArray hx hy ?_ (by simpa using hi) (all_oneCell_toArray h1) ?_
  · intro j hj
    have hj2 : j < cs.length := by simpa using hj
    refine ⟨?_, blk_frozen hb _⟩
    rw [blk_cell hb]
    simp; omega
  · obtain ⟨h2, h3, h4⟩ := setCells_blk w hb hl
    exact h _ h2 h3 h4
theorem wpList_store_blk (hgd : op.guard = none) (hd : op.dst = none) (ty : TypeId) (x y : Operand) (ho : op.op = .store ty x y) {b : Nat} {cur : Array Value} (hb : w.heap[b]? = some (.cells cur ty (0, 0))) (cs : List Value) (hx : a.eval x = .pointer (some ⟨b, 0, none⟩)) (hy : a.eval y = .agg cs.toArray)
    (hl : cur.size = cs.length) (hi : (P.info? ty).map (·.size) = some cs.length) (h1 : ∀ v ∈ cs, v.oneCell' = true)
    (h : ∀ w1 : World, w1.heap[b]? = some (.cells cs.toArray ty (0, 0)) → w.grownBy w1 (some b) → w1.heap.size = w.heap.size → wpList P ops Q rest a w1) : wpList P ops Q (op :: rest) a w :=
  wpList_plain hgd fun _ hK => wp_store_blk ty x y ho hb cs hx hy hl hi h1 (fun w1 h2 h3 h4 => hK _ _ (by rw [hd]; exact h w1 h2 h3 h4))
end
theorem info33z : ((Tryz.prog.info? 33).bind (·.zero)).map (·.cells.size) = some 65 := by kernel_rfl
theorem info33b : (Tryz.prog.info? 33).map (fun i => (i.size, i.bytes)) = some (65, 72) := by kernel_rfl
theorem info33full : ∃ z : Value, (Tryz.prog.info? 33).map (fun i => (i.zero, i.size, i.bytes)) = some (some z, 65, 72) ∧ z.cells.size = 65 := by
  have h1 := info33z
  have h2 := info33b
  cases h : Tryz.prog.info? 33 with
  | none => rw [h] at h2; cases h2
  | some i =>
    rw [h] at h1 h2
    simp only [Option.bind_some] at h1
    cases hz : i.zero with
    | none => rw [hz] at h1; cases h1
    | some z =>
      rw [hz] at h1
      simp only [Option.map_some, Option.some.injEq, Prod.mk.injEq] at h1 h2 ⊢
      exact ⟨z, ⟨hz, h2.1, h2.2⟩, h1⟩
end Go.Proofs.YtdekmeanlcpenaaGreatDoor.Mid

namespace Go.Proofs.YtdekmeanlcpenaaGreatDoor.Mid
open Go.RowKit Go.Proofs.YtdekmeanlcpenaaGreatDoorW.PrintWords

/-- A world of which S holds. -/
structure CW (S : World → Prop) where
  w : World
  h : S w
section
variable {P : Program} {S : World → Prop}
/-- A region that draws its order, whose operations only read and whose calls leave S: one walk, in the order of the text. -/
theorem wp_region_S (S : World → Prop) {id : Nat} {Q : Exit → Act → World → Prop} {a : Act} {w : World} {l : List Oper} (hm : P.follows .mixedOrders = true) (hB : Region.lexB .any l.toArray = true) (h0 : S w.drew)
    (h : wpQuiet P l.toArray (fun w' => ∃ x : CW S, w' = x.w) (fun a' => ∀ w', (∃ x : CW S, w' = x.w) → Q .normal a' w') l a) : (Code.region id l.toArray true).wp P Q a w :=
  wp_region_quiet (C := fun w' => ∃ x : CW S, w' = x.w) hm hB ⟨⟨w.drew, h0⟩, rfl⟩ (by simpa using h)
theorem calls_S {f : FuncId} {args : Array Value} {v : Value} {x : CW S} (h : Calls P f args x.w fun e w' => e = .returned v ∧ S w') : Calls P f args x.w fun e w'' => e = .returned v ∧ ∃ y : CW S, w'' = y.w :=
  h.mono fun _ w' ⟨he, hs⟩ => ⟨he, ⟨w', hs⟩, rfl⟩
/-- .. of a callee that makes new memory alone. -/
theorem calls_below {f : FuncId} {args : Array Value} {v : Value} {x : CW S} (hS : ∀ w1 w2 : World, S w1 → Below w1.heap.size w1 w2 → S w2) (h : Calls P f args x.w fun e w' => e = .returned v ∧ Below x.w.heap.size x.w w') :
    Calls P f args x.w fun e w'' => e = .returned v ∧ ∃ y : CW S, w'' = y.w :=
  calls_S (h.mono fun _ _ ⟨he, hb⟩ => ⟨he, hS _ _ x.h hb⟩)
end
/-- Whatever came behind W. -/
def Since (W : World) (w' : World) : Prop := Below W.heap.size W w'
theorem since_step {W w1 w2 : World} (h1 : Since W w1) (h2 : Below w1.heap.size w1 w2) : Since W w2 := below_of h1 h2 (Nat.le_refl _)
theorem since_drew (W : World) : Since W W.drew := (Below.refl _ _).drew
instance (W : World) : Nonempty (CW (Since W)) := ⟨⟨W.drew, since_drew W⟩⟩
theorem calls_since {P : Program} {W : World} {f : FuncId} {args : Array Value} {v : Value} {x : CW (Since W)} (h : Calls P f args x.w fun e w' => e = .returned v ∧ Below x.w.heap.size x.w w') :
    Calls P f args x.w fun e w'' => e = .returned v ∧ ∃ y : CW (Since W), w'' = y.w := calls_below (fun _ _ => since_step) h
/-- The answer tells whether p holds. -/
structure RetB (e : Ending) (p : Prop) : Prop where mk ::
  out : ∃ q : Bool, e = .returned (.bool q) ∧ (q = true ↔ p)
theorem RetB.yes {p : Prop} {e : Ending} (he : e = .returned (.bool true)) (h : p) : RetB e p := ⟨true, he, fun _ => h, fun _ => rfl⟩
theorem RetB.no {p : Prop} {e : Ending} (he : e = .returned (.bool false)) (h : ¬ p) : RetB e p := ⟨false, he, (fun h => by cases h), fun hp => absurd hp h⟩
end Go.Proofs.YtdekmeanlcpenaaGreatDoor.Mid

namespace Go.Proofs.YtdekmeanlcpenaaGreatDoor.Codec
open Go.RowKit Go.Proofs.YtdekmeanlcpenaaGreatDoorW.PrintWords Go.Proofs.YtdekmeanlcpenaaGreatDoor.Mid
set_option maxHeartbeats 1000000
set_option maxRecDepth 100000

theorem info5 : (Tryz.prog.info? 5).map (fun i => (i.zero, i.size, i.bytes)) = some (some (.int .u8 0), 1, 1) := by kernel_rfl
/-- A Writer that nothing has spoilt: v, what was written. All its memory is from b0 on. -/
structure Wr (b0 : Nat) (W : World) (g : Nat) (v : Value) (out : List Int) : Prop where
  lo : b0 ≤ g
  blk : W.heap[g]? = some (.cells #[.int .i64 0, .int .i64 0, v] 114 (0, 0))
  row : Kd.R (Kd.int .u8) 5 W b0 (fun _ => True) v out
/-- The blocks that a Writer writes. -/
def Ws (g : Nat) (v : Value) (k : Nat) : Prop := k = g ∨ some k = v.ownBlock
/-- What a write leaves. -/
structure Nx (b0 : Nat) (W : World) (g : Nat) (v : Value) (W1 : World) (v1 : Value) (out1 : List Int) : Prop where
  wr : Wr b0 W1 g v1 out1
  kept : Kept W W1 (Ws g v)
  hat : v1.ownBlock = v.ownBlock ∨ ∃ b, v1.ownBlock = some b ∧ W.heap.size ≤ b
  bel : Below b0 W W1
section
variable {b0 g : Nat} {W W1 W2 : World} {v v1 v2 : Value} {out out1 out2 : List Int}
theorem Wr.below (h : Wr b0 W g v out) (hb : Below W.heap.size W W1) : Wr b0 W1 g v out := ⟨h.lo, blk_below h.blk hb, Kd.R_below h.row hb⟩
theorem Wr.lt (h : Wr b0 W g v out) : g < W.heap.size := blk_lt h.blk
theorem Wr.size (h : Wr b0 W g v out) : b0 ≤ W.heap.size := Nat.le_trans h.lo (Nat.le_of_lt h.lt)
theorem Wr.start (w : World) : Wr w.heap.size (w.alloc (.cells #[.int .i64 0, .int .i64 0, .slice none 0 0] 114)) w.heap.size (.slice none 0 0) [] :=
  ⟨Nat.le_refl _, heap_alloc_new w _, Kd.R_nil _ _ _ _ _⟩
theorem Wr.ws_lt (h : Wr b0 W g v out) {k : Nat} (hk : Ws g v k) : b0 ≤ k ∧ k < W.heap.size := by
  rcases hk with rfl | hk
  · exact ⟨h.lo, h.lt⟩
  · exact ⟨Kd.R_base h.row k hk.symm, Kd.R_lt h.row k hk.symm⟩
/-- The blocks that it writes next are those, or new. -/
theorem Nx.ws (h : Nx b0 W g v W1 v1 out1) {k : Nat} (hk : Ws g v1 k) : Ws g v k ∨ W.heap.size ≤ k := by
  rcases hk with rfl | hk
  · exact .inl (.inl rfl)
  · rcases h.hat with e | ⟨b, e, hb⟩
    · exact .inl (.inr (by rw [hk, e]))
    · rw [e] at hk
      injection hk with hk
      exact .inr (by omega)
theorem Nx.trans (h : Nx b0 W g v W1 v1 out1) (h2 : Nx b0 W1 g v1 W2 v2 out2) : Nx b0 W g v W2 v2 out2 :=
  ⟨h2.wr, h.kept.then_ h2.kept (fun _ hk => h.ws hk), by
    rcases h2.hat with e | ⟨b, e, hb⟩
    · rw [e]; exact h.hat
    · exact .inr ⟨b, e, Nat.le_trans h.kept.1 hb⟩, h.bel.trans h2.bel⟩
/-- Ahead of it new memory alone was made. -/
theorem Nx.from_below (hW : Wr b0 W g v out) (hb : Below W.heap.size W W1) (h2 : Nx b0 W1 g v W2 v2 out2) : Nx b0 W g v W2 v2 out2 :=
  ⟨h2.wr, (Kept.of_below hb _).then_ h2.kept (fun _ hk => .inl hk), by
    rcases h2.hat with e | ⟨b, e, hb'⟩
    · exact .inl e
    · exact .inr ⟨b, e, Nat.le_trans hb.size hb'⟩, (hb.mono hW.size).trans h2.bel⟩
theorem Nx.then_below (h : Nx b0 W g v W1 v1 out1) (hb : Below W1.heap.size W1 W2) : Nx b0 W g v W2 v1 out1 :=
  ⟨h.wr.below hb, h.kept.below hb, h.hat, h.bel.trans (hb.mono h.wr.size)⟩
/-- A row of bytes that the Writer does not write reads as before. -/
theorem C_away {A : Option Addr} {n : Nat} {xs : List Int} (h : Kd.C (Kd.int .u8) W A n xs) (hk : Kept W W1 (Ws g v)) (hf : ∀ ad, A = some ad → 0 < n → ¬ Ws g v ad.block) : Kd.C (Kd.int .u8) W1 A n xs :=
  Kd.C_foot_neS (fun h => h) h hf _ hk
end
/-- A Writer's next state, whatever its value. -/
def NxE (b0 : Nat) (W : World) (g : Nat) (v : Value) (out1 : List Int) (W1 : World) : Prop := ∃ A k, Nx b0 W g v W1 (.slice A out1.length k) out1
theorem spoilt_no (g : Nat) (c1 c2 : Value) (w : World) (h : w.heap[g]? = some (.cells #[.int .i64 0, c1, c2] 114 (0, 0))) : Calls Tryz.prog 100 #[.pointer (some ⟨g, 0, none⟩)] w fun e w' => e = .returned (.bool false) ∧ w = w' := by
  have hc : w.cell? ⟨g, 0, none⟩ = some (.int .i64 0) := (blk_cell h _).trans rfl
  go_enter Tryz.func100, Tryz.ntmps100
  go_wp2
  go_ret
  exact ⟨rfl, rfl⟩
theorem put_any (b0 g : Nat) (v : Value) (out xs : List Int) (A : Option Addr) (m c : Nat) (w : World) (hW : Wr b0 w g v out) (hx : Kd.C (Kd.int .u8) w A m xs) (hl : out.length + m ≤ 1000000000) :
    Calls Tryz.prog 99 #[.pointer (some ⟨g, 0, none⟩), .bool true, .slice A m c] w fun e w' => e = .returned (.tuple #[]) ∧ NxE b0 w g v (out ++ xs) w' := by
  obtain ⟨Ao, ko, hv⟩ := Kd.R_slice hW.row
  subst hv
  have h0 : w.cell? ⟨g, 0, none⟩ = some (.int .i64 0) := (blk_cell hW.blk _).trans rfl
  have h2 : w.cell? ⟨g, 2, none⟩ = some (.slice Ao out.length ko) := (blk_cell hW.blk _).trans rfl
  have hne : Aside0 (some g ≠ (Value.slice Ao out.length ko).ownBlock) := ⟨Kd.R_ne hW.row hW.blk (by decide)⟩
  have HW := Aside0.mk hW
  have HX := Aside0.mk hx
  clear hW hx
  go_enter Tryz.func99, Tryz.ntmps99
  go_wp2_with (first
    | (go_at_call 100; refine (spoilt_no g _ _ _ HW.out.blk).mono ?_; rintro e w1 ⟨rfl, rfl⟩)
    | (at_builtin; refine Kd.R_append_rows (Kd.int .u8) (w0 := w) b0 rfl (.tmp 26) (.tmp 27) 47 5 (.int .u8 0) 1 rfl Tryz.underlying47 info5 rfl (by decide) (by omega) (.slice Ao out.length ko) out xs A m c (fun _ => True) (fun _ => False) rfl rfl HW.out.row HX.out (fun _ _ h => h) (fun _ hk => hk.elim) (fun _ _ => trivial) (Below.refl _ _) HW.out.size (by omega) ?_
       intro v8 w8 ho8 hb8 hg8 hat8
       obtain ⟨A8, k8, e8⟩ := Kd.R_slice ho8
       rw [List.length_append] at e8
       subst e8
       have hb9 := blk_grown HW.out.blk hg8 hne.out
       have q2 : w8.cell? ⟨g, 2, none⟩ = some (.slice Ao out.length ko) := (blk_cell hb9 _).trans rfl
       have qf : w8.frozen? ⟨g, 2, none⟩ = false := blk_frozen hb9 _
       have HB9 := Aside0.mk hb9
       have H8 := Aside0.mk (⟨ho8, hb8, hg8, hat8⟩ : _ ∧ _ ∧ _ ∧ _)
       clear ho8 hb8 hg8 hat8 hb9))
  go_end0
  have hb10 := blk_set HB9.out 2 (.slice A8 (out.length + xs.length) k8)
  refine ⟨rfl, A8, k8, ?_⟩
  rw [List.length_append]
  refine ⟨⟨HW.out.lo, hb10, ?_⟩, ?_, H8.out.2.2.2, H8.out.2.1.setCell (p := ⟨g, 2, none⟩) HW.out.lo _⟩
  · exact Kd.R_mono (Kd.R_far (p := ⟨g, 2, none⟩) (Kd.R_mono (Kd.R_types H8.out.1 HB9.out (by decide)) (fun _ h => h)) (fun _ hk => hk.2) _) (fun _ _ => trivial)
  · exact (Kept.of_grown H8.out.2.2.1 (Kept.refl w _) (fun k hk => .inl (.inr hk.symm))).setCell (p := ⟨g, 2, none⟩) (.inl (.inl rfl)) _
theorem raw_any (b0 g : Nat) (v : Value) (out xs : List Int) (A : Option Addr) (m c : Nat) (w : World) (hW : Wr b0 w g v out) (hx : Kd.C (Kd.int .u8) w A m xs) (hl : out.length + m ≤ 1000000000) :
    Calls Tryz.prog 50 #[.pointer (some ⟨g, 0, none⟩), .slice A m c] w fun e w' => e = .returned (.tuple #[]) ∧ NxE b0 w g v (out ++ xs) w' := by
  have HW := Aside0.mk hW
  have HX := Aside0.mk hx
  clear hW hx
  go_enter Tryz.func50, Tryz.ntmps50
  go_wp2_with (go_at_call 99; refine (put_any b0 g v out xs A m c _ HW.out HX.out hl).mono ?_; rintro e w1 ⟨rfl, h1⟩; have H1 := Aside0.mk h1; clear h1)
  go_end0
  exact ⟨rfl, H1.out⟩
theorem data_any (b0 g : Nat) (v : Value) (out : List Int) (w : World) (hW : Wr b0 w g v out) (hl : out.length ≤ 1000000000) :
    Calls Tryz.prog 53 #[.pointer (some ⟨g, 0, none⟩)] w fun e w' => ∃ A k, e = .returned (.tuple #[.slice A out.length k, .int .i64 0]) ∧ Kd.R (Kd.int .u8) 5 w' w.heap.size (fun _ => True) (.slice A out.length k) out ∧ Below w.heap.size w w' := by
  obtain ⟨Ao, ko, hv⟩ := Kd.R_slice hW.row
  subst hv
  have h0 : w.cell? ⟨g, 0, none⟩ = some (.int .i64 0) := (blk_cell hW.blk _).trans rfl
  have h2 : w.cell? ⟨g, 2, none⟩ = some (.slice Ao out.length ko) := (blk_cell hW.blk _).trans rfl
  have HW := Aside0.mk hW
  clear hW
  go_enter Tryz.func53, Tryz.ntmps53
  go_wp2_with (first
    | (go_at_call 100; refine (spoilt_no g _ _ _ HW.out.blk).mono ?_; rintro e w1 ⟨rfl, rfl⟩)
    | (at_builtin; refine Kd.R_append_rows (Kd.int .u8) (w0 := w) w.heap.size rfl (.const (.slice none 0 0)) (.tmp 15) 47 5 (.int .u8 0) 1 rfl Tryz.underlying47 info5 rfl (by decide) (by omega) (.slice none 0 0) [] out Ao out.length ko (fun _ => True) (fun _ => False) rfl rfl (Kd.R_nil _ _ _ _ _) (Kd.R_reads' HW.out.row).2.2 (fun _ _ h => h) (fun _ hk => hk.elim) (fun _ _ => trivial) (Below.refl _ _) (Nat.le_refl _) (by simp; omega) ?_
       intro v8 w8 ho8 hb8 hg8 hat8
       rw [List.nil_append] at ho8
       obtain ⟨A8, k8, e8⟩ := Kd.R_slice ho8
       subst e8
       have H8 := Aside0.mk (⟨ho8, hb8⟩ : _ ∧ _)
       clear ho8 hb8 hg8 hat8))
  go_ret2
  exact ⟨A8, k8, rfl, H8.out⟩
end Go.Proofs.YtdekmeanlcpenaaGreatDoor.Codec
