import Derived.Test.YtdekmeanlcpenaaGreatDoorGrN1
import Derived.Test.YtdekmeanlcpenaaGreatDoorProg
import Derived.Lib.BytesEntry
import Derived.BigQuiet
import Derived.Maps.Keyed
import Derived.DeepKeys4
namespace Go.Proofs.YtdekmeanlcpenaaGreatDoor.Mid

/-- How two ids stand. -/
def cmp : List Int → List Int → Int
  | x :: xs, y :: ys => if x < y then -1 else if y < x then 1 else cmp xs ys
  | _, _ => 0
theorem cmp_vals : ∀ x y, cmp x y = -1 ∨ cmp x y = 0 ∨ cmp x y = 1
  | [], y => by right; left; cases y <;> rfl
  | x :: xs, [] => by right; left; rfl
  | x :: xs, y :: ys => by
    rw [cmp]
    split
    · exact .inl rfl
    · split
      · exact .inr (.inr rfl)
      · exact cmp_vals xs ys
theorem cmp_self : ∀ x, cmp x x = 0
  | [] => rfl
  | x :: xs => by rw [cmp, if_neg (by omega), if_neg (by omega)]; exact cmp_self xs
theorem cmp_anti : ∀ x y, cmp y x = - cmp x y
  | [], y => by cases y <;> rfl
  | x :: xs, [] => rfl
  | x :: xs, y :: ys => by
    rw [cmp, cmp]
    by_cases h1 : x < y
    · rw [if_pos h1, if_neg (by omega), if_pos h1]; rfl
    · by_cases h2 : y < x
      · simp [h1, h2]
      · rw [if_neg h1, if_neg h2, if_neg h2, if_neg h1]; exact cmp_anti xs ys
theorem cmp_zero : ∀ {x y : List Int}, x.length = y.length → cmp x y = 0 → x = y
  | [], [], _, _ => rfl
  | x :: xs, y :: ys, hl, h => by
    rw [cmp] at h
    split at h
    · cases h
    · split at h
      · cases h
      · rw [cmp_zero (by simpa using hl) h, show x = y by omega]
theorem cmp_trans : ∀ {x y z : List Int}, x.length = y.length → y.length = z.length → cmp x y ≤ 0 → cmp y z ≤ 0 → cmp x z ≤ 0
  | [], [], [], _, _, _, _ => by decide
  | x :: xs, y :: ys, z :: zs, h1, h2, h3, h4 => by
    have ih := @cmp_trans xs ys zs (by simpa using h1) (by simpa using h2)
    rw [cmp] at h3 h4 ⊢
    split at h3
    · split at h4
      · rw [if_pos (by omega)]; decide
      · split at h4
        · exact absurd h4 (by decide)
        · rw [if_pos (by omega)]; decide
    · split at h3
      · exact absurd h3 (by decide)
      · split at h4
        · rw [if_pos (by omega)]; decide
        · split at h4
          · exact absurd h4 (by decide)
          · rw [if_neg (by omega), if_neg (by omega)]; exact ih h3 h4
theorem cmp_lt_trans {x y z : List Int} (h1 : x.length = y.length) (h2 : y.length = z.length) (h3 : cmp x y < 0) (h4 : cmp y z < 0) : cmp x z < 0 := by
  have h5 := cmp_trans h1 h2 (by omega) (by omega)
  by_cases h : cmp x z < 0
  · exact h
  · have h6 : cmp x z = 0 := by omega
    have := cmp_zero (h1.trans h2) h6
    subst this
    have := cmp_anti x y
    omega

/-- A table: at most 32 results, rising by their actions, each with a code from 0 to 255. -/
structure Table (rs : List Res) : Prop where
  most : rs.length ≤ 32
  code : ∀ r ∈ rs, 0 ≤ r.code ∧ r.code ≤ 255
  rise : ∀ (i : Nat) (r s : Res), rs[i]? = some r → rs[i + 1]? = some s → cmp r.act s.act < 0

theorem Table.lt {rs : List Res} (T : Table rs) (ok : ∀ r ∈ rs, ResOk r) : ∀ (d i : Nat) (r s : Res), rs[i]? = some r → rs[i + 1 + d]? = some s → cmp r.act s.act < 0
  | 0, i, r, s, hr, hs => T.rise i r s hr hs
  | d + 1, i, r, s, hr, hs => by
    have hl : i + 1 + d < rs.length := by have := (List.getElem?_eq_some_iff.1 hs).1; omega
    obtain ⟨q, hq⟩ : ∃ q, rs[i + 1 + d]? = some q := ⟨_, List.getElem?_eq_getElem hl⟩
    have h1 := Table.lt T ok d i r q hr hq
    have h2 := T.rise (i + 1 + d) q s hq hs
    have l1 := (ok r (List.mem_of_getElem? hr)).act.len
    have l2 := (ok q (List.mem_of_getElem? hq)).act.len
    have l3 := (ok s (List.mem_of_getElem? hs)).act.len
    exact cmp_lt_trans (by omega) (by omega) h1 h2
/-- A table has no action twice. -/
theorem Table.once {rs : List Res} (T : Table rs) (ok : ∀ r ∈ rs, ResOk r) {i j : Nat} {r s : Res} (hr : rs[i]? = some r) (hs : rs[j]? = some s) (he : r.act = s.act) : i = j := by
  rcases Nat.lt_trichotomy i j with h | h | h
  · have h1 := T.lt ok (j - (i + 1)) i r s hr (by rw [show i + 1 + (j - (i + 1)) = j by omega]; exact hs)
    rw [he, cmp_self] at h1; omega
  · exact h
  · have h1 := T.lt ok (i - (j + 1)) j s r hs (by rw [show j + 1 + (i - (j + 1)) = i by omega]; exact hr)
    rw [he, cmp_self] at h1; omega

/-- The results of these actions, in their order. -/
def pickS (rs : List Res) (qas : List (List Int)) : List Res := rs.filter fun r => qas.contains r.act
/-- An action that is asked for and is not there. -/
def Lacks (rs : List Res) (qas : List (List Int)) (a : List Int) : Prop := a ∈ qas ∧ ∀ r ∈ rs, r.act ≠ a
/-- The least of them. -/
def Least (p : List Int → Prop) (a : List Int) : Prop := p a ∧ ∀ b, p b → cmp a b ≤ 0
theorem Least.same {p : List Int → Prop} (hl : ∀ a, p a → a.length = 32) {a b : List Int} (h : Least p a) (h' : Least p b) : a = b := by
  have h1 := h.2 b h'.1
  have h2 := h'.2 a h.1
  rw [cmp_anti] at h2
  exact cmp_zero ((hl a h.1).trans (hl b h'.1).symm) (by omega)
/-- What Pick answers: the results, a number (0, 1, 96), an id. -/
structure Picked (rs : List Res) (qas : List (List Int)) (out : List Res) (e : Int) (id : List Int) : Prop where
  bad : ¬ Table rs → out = [] ∧ e = 1 ∧ id = List.replicate 32 0
  fine : Table rs → (∀ a, ¬ Lacks rs qas a) → out = pickS rs qas ∧ e = 0 ∧ id = List.replicate 32 0
  lacks : Table rs → (∃ a, Lacks rs qas a) → out = [] ∧ e = 96 ∧ Least (Lacks rs qas) id
theorem Picked.same {rs : List Res} {qas : List (List Int)} (ok : ∀ a ∈ qas, IdOk a) {o o' : List Res} {e e' : Int} {i i' : List Int} (h : Picked rs qas o e i) (h' : Picked rs qas o' e' i') : o = o' ∧ e = e' ∧ i = i' := by
  by_cases hT : Table rs
  · by_cases hL : ∃ a, Lacks rs qas a
    · obtain ⟨rfl, rfl, h1⟩ := h.lacks hT hL
      obtain ⟨rfl, rfl, h2⟩ := h'.lacks hT hL
      exact ⟨rfl, rfl, h1.same (fun a ha => (ok a ha.1).len) h2⟩
    · have hL' : ∀ a, ¬ Lacks rs qas a := fun a ha => hL ⟨a, ha⟩
      obtain ⟨rfl, rfl, rfl⟩ := h.fine hT hL'
      obtain ⟨rfl, rfl, rfl⟩ := h'.fine hT hL'
      exact ⟨rfl, rfl, rfl⟩
  · obtain ⟨rfl, rfl, rfl⟩ := h.bad hT
    obtain ⟨rfl, rfl, rfl⟩ := h'.bad hT
    exact ⟨rfl, rfl, rfl⟩
end Go.Proofs.YtdekmeanlcpenaaGreatDoor.Mid

namespace Go.Proofs.YtdekmeanlcpenaaGreatDoor.Mid
open Go.RowKit Go.Proofs.YtdekmeanlcpenaaGreatDoorW.PrintWords

/-! ### A whole array in a new block -/
theorem At.new (w : World) (cs : List Value) (t : TypeId) : At (w.alloc (.cells cs.toArray t)) ⟨w.heap.size, 0, none⟩ cs := fun j v hv => by
  rw [Addr.add_mid, Nat.zero_add]
  have h : (w.alloc (.cells cs.toArray t)).heap[w.heap.size]? = some (.cells cs.toArray t (0, 0)) := heap_alloc_new w _
  rw [blk_cell h]
  simpa using hv
theorem setCells_new (w : World) (t : TypeId) : ∀ (cs pre zs : List Value), zs.length = cs.length → (w.alloc (.cells (pre ++ zs).toArray t)).setCells w.heap.size pre.length cs = w.alloc (.cells (pre ++ cs).toArray t)
  | [], pre, zs, h => by
    have : zs = [] := List.length_eq_zero_iff.1 (by simpa using h)
    subst this
    rfl
  | c :: cs, pre, [], h => by simp at h
  | c :: cs, pre, z :: zs, h => by
    have h1 : (w.alloc (.cells (pre ++ z :: zs).toArray t)).setCell ⟨w.heap.size, pre.length, none⟩ c = w.alloc (.cells ((pre ++ [c]) ++ zs).toArray t) := by
      rw [World.setCell_alloc_new]
      congr 2
      simp
    rw [World.setCells, h1]
    have ih := setCells_new w t cs (pre ++ [c]) zs (by simpa using h)
    rw [List.length_append, List.length_singleton] at ih
    rw [ih, List.append_assoc]
    rfl
section
variable {P : Program} {ops : Array Oper} {rest : List Oper} {op : Oper} {a : Act} {w : World} {Q : Exit → Act → World → Prop} {K : Act → World → Prop}
/-- A whole new variable is stored. -/
theorem wp_store_new (ty : TypeId) (x y : Operand) (ho : op.op = .store ty x y) (zs : Array Value) (cs : List Value) (hx : a.eval x = .pointer (some ⟨w.heap.size, 0, none⟩)) (hy : a.eval y = .agg cs.toArray)
    (hl : zs.size = cs.length) (hi : (P.info? ty).map (·.size) = some cs.length) (h1 : ∀ v ∈ cs, v.oneCell' = true)
    (h : K (a.put op.dst undef) (w.alloc (.cells cs.toArray ty))) : op.wp P a (w.alloc (.cells zs ty)) K Q := by
  have hh : (w.alloc (.cells zs ty)).heap[w.heap.size]? = some (.cells zs ty (0, 0)) := heap_alloc_new w _
  refine wp_store_mid ty x y ho w.heap.size 0 cs.toArray hx hy ?_ (by simpa using hi) (all_oneCell_toArray h1) ?_
  · intro j hj
    have hj2 : j < cs.length := by simpa using hj
    have hj' : j < zs.size := by omega
    refine ⟨?_, blk_frozen hh _⟩
    rw [blk_cell hh]
    simp [hj']
  · have := setCells_new w ty cs [] zs.toList (by simpa using hl)
    simp only [List.nil_append, List.length_nil, Array.toArray_toList] at this
    show K _ ((w.alloc (.cells zs ty)).setCells w.heap.size 0 cs)
    rw [this]
    exact h
theorem wpList_store_new (hgd : op.guard = none) (ty : TypeId) (x y : Operand) (ho : op.op = .store ty x y) (zs : Array Value) (cs : List Value) (hx : a.eval x = .pointer (some ⟨w.heap.size, 0, none⟩)) (hy : a.eval y = .agg cs.toArray)
    (hl : zs.size = cs.length) (hi : (P.info? ty).map (·.size) = some cs.length) (h1 : ∀ v ∈ cs, v.oneCell' = true)
    (h : wpList P ops Q rest (a.put op.dst undef) (w.alloc (.cells cs.toArray ty))) : wpList P ops Q (op :: rest) a (w.alloc (.cells zs ty)) :=
  wpList_plain hgd fun _ hK => wp_store_new ty x y ho zs cs hx hy hl hi h1 (hK _ _ h)
end

/-! ### bytes.Compare -/
theorem compare_cmp : ∀ {x y : List Int}, x.length = y.length → Bs x → Bs y → Lib.compareBytes (Lib.bytesOf x) (Lib.bytesOf y) = cmp x y
  | [], [], _, _, _ => rfl
  | a :: x, b :: y, hl, hx, hy => by
    have ha := hx a (by simp)
    have hb := hy b (by simp)
    have ih := compare_cmp (x := x) (y := y) (by simpa using hl) (fun u hu => hx u (by simp [hu])) (fun u hu => hy u (by simp [hu]))
    have e : ∀ n : Int, 0 ≤ n ∧ n ≤ 255 → (n.toNat.toUInt8).toNat = n.toNat := fun n hn => by
      have : n.toNat < 256 := by omega
      simp [Nat.toUInt8, Nat.mod_eq_of_lt this]
    have h1 : (a.toNat.toUInt8 < b.toNat.toUInt8) ↔ a < b := by
      rw [UInt8.lt_iff_toNat_lt, e a ha, e b hb]; omega
    have h2 : (b.toNat.toUInt8 < a.toNat.toUInt8) ↔ b < a := by
      rw [UInt8.lt_iff_toNat_lt, e a ha, e b hb]; omega
    show (if a.toNat.toUInt8 < b.toNat.toUInt8 then (-1 : Int) else if b.toNat.toUInt8 < a.toNat.toUInt8 then 1 else Lib.compareBytes (Lib.bytesOf x) (Lib.bytesOf y)) = _
    rw [cmp, ih]
    simp only [h1, h2]
theorem run_compare {P : Program} (w : World) (p q : Addr) (c d : Nat) (x y : List Int) (hx : At w p (u8s x)) (hy : At w q (u8s y)) (hl : x.length = y.length) (bx : Bs x) (by_ : Bs y) :
    (Extern.BytealgCompare.compare #[.slice (some p) x.length c, .slice (some q) y.length d]).run P w = .ok (.int .i64 (cmp x y)) w := by
  have cells : ∀ {z : List Int} {r : Addr}, At w r (u8s z) → ∀ j u, z[j]? = some u → w.cell? (r.add j) = some (.int .u8 u) := fun h j u hu => h j _ (by rw [u8s, List.getElem?_map, hu]; rfl)
  have h1 := Lib.run_loadBytesX (P := P) w x p .empty (cells hx)
  have h2 := Lib.run_loadBytesX (P := P) w y q .empty (cells hy)
  have he : ∀ l : List UInt8, (⟨ByteArray.empty.data ++ l.toArray⟩ : ByteArray) = ⟨l.toArray⟩ := fun l => by
    apply ByteArray.ext
    show (#[] : Array UInt8) ++ l.toArray = l.toArray
    simp
  rw [he] at h1 h2
  change Sem.run P (do pure (goInt (Extern.BytealgCompare.cmp (← Extern.Bytes.bytesOf (.slice (some p) x.length c)) (← Extern.Bytes.bytesOf (.slice (some q) y.length d))))) w = _
  simp only [Extern.Bytes.bytesOf, Sem.run_bind, Sem.run_pure, h1, h2, Result.andThen]
  rw [Lib.cmp_eq]
  simp only [compare_cmp hl bx by_]
  rfl

theorem bytes_compare (w : World) (p q : Addr) (x y : List Int) (hx : At w p (u8s x)) (hy : At w q (u8s y)) (lx : IdOk x) (ly : IdOk y) :
    Calls Tryz.prog 119 #[.slice (some p) 32 32, .slice (some q) 32 32] w fun e w' => e = .returned (.int .i64 (cmp x y)) ∧ w' = w := by
  have h := run_compare (P := Tryz.prog) w p q 32 32 x y hx hy (lx.len.trans ly.len.symm) lx.bytes ly.bytes
  rw [lx.len, ly.len] at h
  have h133 := @run_callFunc_extern Tryz.prog 151 _ Extern.BytealgCompare.compare Tryz.func151 (by kernel_rfl) (by kernel_rfl) (by kernel_rfl) (by kernel_rfl)
  go_enter Tryz.func119, Tryz.ntmps119
  go_wp2
  go_ret
  exact ⟨rfl, rfl⟩
theorem info29 : (Tryz.prog.info? 29).map (·.size) = some 32 := by kernel_rfl
theorem info33 : (Tryz.prog.info? 33).map (·.size) = some 65 := by kernel_rfl

/-- digest.Compare. -/
theorem digest_compare (w : World) (x y : List Int) (lx : IdOk x) (ly : IdOk y) :
    Calls Tryz.prog 75 #[idv x, idv y] w fun e w' => e = .returned (.int .i64 (cmp x y)) ∧ Below w.heap.size w w' := by
  have h1 : At ((w.alloc (.cells (u8s x).toArray 29)).alloc (.cells (u8s y).toArray 29)).drew ⟨w.heap.size, 0, none⟩ (u8s x) :=
    (((At.new w (u8s x) 29).below (below_alloc (Below.refl _ _) _)).move rfl)
  have h2 : At ((w.alloc (.cells (u8s x).toArray 29)).alloc (.cells (u8s y).toArray 29)).drew ⟨w.heap.size + 1, 0, none⟩ (u8s y) := by
    have := (At.new (w.alloc (.cells (u8s x).toArray 29)) (u8s y) 29)
    have e : (w.alloc (.cells (u8s x).toArray 29)).heap.size = w.heap.size + 1 := by simp
    rw [e] at this
    exact this.move rfl
  unfold idv
  go_enter Tryz.func75, Tryz.ntmps75
  go_wp2
  go_region_with (go_at_call 119; refine (bytes_compare _ _ _ x y ?_ ?_ lx ly).mono ?_; exact h1; exact h2; rintro e w' ⟨rfl, rfl⟩)
  all_goals (try go_wp2)
  all_goals (go_ret; exact ⟨rfl, (below_alloc (below_alloc (Below.refl _ _) _) _).drew⟩)
end Go.Proofs.YtdekmeanlcpenaaGreatDoor.Mid

namespace Go.Proofs.YtdekmeanlcpenaaGreatDoor.Mid
open Go.RowKit Go.Proofs.YtdekmeanlcpenaaGreatDoorW.PrintWords

theorem below_true (w : World) (x y : List Int) (lx : IdOk x) (ly : IdOk y) :
    Calls Tryz.prog 74 #[idv x, idv y] w fun e w' => e = .returned (.bool (decide (cmp x y < 0))) ∧ Below w.heap.size w w' := by
  have h1 : At ((w.alloc (.cells (u8s x).toArray 29)).alloc (.cells (u8s y).toArray 29)).drew ⟨w.heap.size, 0, none⟩ (u8s x) :=
    (((At.new w (u8s x) 29).below (below_alloc (Below.refl _ _) _)).move rfl)
  have h2 : At ((w.alloc (.cells (u8s x).toArray 29)).alloc (.cells (u8s y).toArray 29)).drew ⟨w.heap.size + 1, 0, none⟩ (u8s y) := by
    have := (At.new (w.alloc (.cells (u8s x).toArray 29)) (u8s y) 29)
    have e : (w.alloc (.cells (u8s x).toArray 29)).heap.size = w.heap.size + 1 := by simp
    rw [e] at this
    exact this.move rfl
  unfold idv
  go_enter Tryz.func74, Tryz.ntmps74
  go_wp2
  go_region_with (go_at_call 119; refine (bytes_compare _ _ _ x y ?_ ?_ lx ly).mono ?_; exact h1; exact h2; rintro e w' ⟨rfl, rfl⟩)
  all_goals (try go_wp2)
  all_goals (go_ret; exact ⟨rfl, (below_alloc (below_alloc (Below.refl _ _) _) _).drew⟩)

theorem fits_any (w : World) (r : Res) (hr : ResOk r) : Calls Tryz.prog 73 #[resv r] w fun e w' => e = .returned (.bool (decide (0 ≤ r.code) && decide (r.code ≤ 255))) ∧ Below w.heap.size w w' := by
  have h1 : (w.alloc (.cells (resC r).toArray 33)).cell? ⟨w.heap.size, 64, none⟩ = some (.int .i64 r.code) := by
    have := res_code hr (At.new w (resC r) 33)
    rwa [Addr.add_mid] at this
  unfold resv
  by_cases hc : 0 ≤ r.code
  · go_enter Tryz.func73, Tryz.ntmps73
    go_wp2
    go_ret
    exact ⟨by simp [hc], below_alloc (Below.refl _ _) _⟩
  · have hd : decide (0 ≤ r.code) = false := by simpa using hc
    clear hc
    go_enter Tryz.func73, Tryz.ntmps73
    go_wp2
    go_ret
    exact ⟨by simp [hd], below_alloc (Below.refl _ _) _⟩

/-- Behind i bytes that are alike. -/
def Alk (x y : List Int) (i : Nat) : Prop := cmp x y = cmp (x.drop i) (y.drop i)
theorem alk_step {x y : List Int} {i : Nat} {a b : Int} (h : Alk x y i) (ha : x[i]? = some a) (hb : y[i]? = some b) (hn1 : ¬ a < b) (hn2 : ¬ b < a) : Alk x y (i + 1) := by
  unfold Alk at h ⊢
  have la := (List.getElem?_eq_some_iff.1 ha)
  have lb := (List.getElem?_eq_some_iff.1 hb)
  rw [h, List.drop_eq_getElem_cons la.1, List.drop_eq_getElem_cons lb.1, la.2, lb.2, cmp, if_neg hn1, if_neg hn2]
theorem alk_lt {x y : List Int} {i : Nat} {a b : Int} (h : Alk x y i) (ha : x[i]? = some a) (hb : y[i]? = some b) (hn1 : a < b) : cmp x y = -1 := by
  unfold Alk at h
  have la := (List.getElem?_eq_some_iff.1 ha)
  have lb := (List.getElem?_eq_some_iff.1 hb)
  rw [h, List.drop_eq_getElem_cons la.1, List.drop_eq_getElem_cons lb.1, la.2, lb.2, cmp, if_pos hn1]
theorem alk_gt {x y : List Int} {i : Nat} {a b : Int} (h : Alk x y i) (ha : x[i]? = some a) (hb : y[i]? = some b) (hn2 : b < a) : cmp x y = 1 := by
  unfold Alk at h
  have la := (List.getElem?_eq_some_iff.1 ha)
  have lb := (List.getElem?_eq_some_iff.1 hb)
  rw [h, List.drop_eq_getElem_cons la.1, List.drop_eq_getElem_cons lb.1, la.2, lb.2, cmp, if_neg (by omega), if_pos hn2]
theorem alk_end {x y : List Int} {i : Nat} (h : Alk x y i) (hx : x.length ≤ i) : cmp x y = 0 := by
  unfold Alk at h
  rw [h, List.drop_of_length_le hx]
  cases y.drop i <;> rfl
theorem At.u8 {w : World} {p : Addr} {x : List Int} (h : At w p (u8s x)) {i : Nat} {a : Int} (ha : x[i]? = some a) : w.cell? (p.add i) = some (.int .u8 a) := h i _ (by rw [u8s, List.getElem?_map, ha]; rfl)

set_option maxHeartbeats 1000000 in
theorem order_any (w : World) (x y : List Int) (lx : IdOk x) (ly : IdOk y) :
    Calls Tryz.prog 72 #[idv x, idv y] w fun e w' => e = .returned (.int .i64 (cmp x y)) ∧ Below w.heap.size w w' := by
  obtain ⟨W, hW⟩ : ∃ W, W = (w.alloc (.cells (u8s x).toArray 29)).alloc (.cells (u8s y).toArray 29) := ⟨_, rfl⟩
  have h1 : At W ⟨w.heap.size, 0, none⟩ (u8s x) := hW ▸ ((At.new w (u8s x) 29).below (below_alloc (Below.refl _ _) _))
  have h2 : At W ⟨w.heap.size + 1, 0, none⟩ (u8s y) := by
    have := (At.new (w.alloc (.cells (u8s x).toArray 29)) (u8s y) 29)
    have e : (w.alloc (.cells (u8s x).toArray 29)).heap.size = w.heap.size + 1 := by simp
    rw [e] at this
    exact hW ▸ this
  have HB : Aside0 (Below w.heap.size w W) := ⟨hW ▸ (below_alloc (below_alloc (Below.refl _ _) _) _)⟩
  have H1 := Aside0.mk h1
  have H2 := Aside0.mk h2
  have HX := Aside0.mk lx
  have HY := Aside0.mk ly
  have HW := Aside0.mk hW
  clear h1 h2 hW lx ly
  unfold idv
  go_enter Tryz.func72, Tryz.ntmps72
  go_wp2
  rw [← HW.out]
  go_loopg [5] 32 (fun k v5 w' => ∃ i : Nat, v5 = .int .i64 i ∧ i + k = 32 ∧ Aside0 (Alk x y i) ∧ Aside0 (Drawn0 W w'))
  case atStart => exact ⟨0, rfl, rfl, ⟨rfl⟩, ⟨Drawn0.refl _⟩⟩
  case round =>
    obtain ⟨i, rfl, hik, HA, HD⟩ := hrel
    cases gk with
    | zero =>
      have hd : decide ((i : Int) < 32) = false := by simp; omega
      have hi : Aside0 (i = 32) := ⟨by omega⟩
      clear hik
      go_wp2
      go_ret
      exact ⟨by rw [alk_end HA.out (by rw [HX.out.len, hi.out]; exact Nat.le_refl _)]; rfl, HB.out.trans ((HD.out.below).mono HB.out.size)⟩
    | succ k =>
      have hi : i < 32 := by omega
      have hi1 : (i : Int) < 32 := by omega
      obtain ⟨a, ha⟩ : ∃ a, x[i]? = some a := ⟨_, List.getElem?_eq_getElem (by rw [HX.out.len]; exact hi)⟩
      obtain ⟨b, hb⟩ : ∃ b, y[i]? = some b := ⟨_, List.getElem?_eq_getElem (by rw [HY.out.len]; exact hi)⟩
      have c1 := (H1.out.below HD.out.below).u8 ha
      have c2 := (H2.out.below HD.out.below).u8 hb
      rw [Addr.add_mid, Nat.zero_add] at c1 c2
      have HA1 := Aside0.mk ha
      have HB1 := Aside0.mk hb
      clear ha hb
      by_cases hlt : a < b
      · go_wp2
        go_quiet (fail)
        go_wp2
        go_ret
        exact ⟨by rw [alk_lt HA.out HA1.out HB1.out hlt]; rfl, HB.out.trans (((HD.out.step _).below).mono HB.out.size)⟩
      · have d1 : decide (a < b) = false := by simpa using hlt
        by_cases hgt : b < a
        · go_wp2
          go_quiet (fail)
          go_wp2
          go_quiet (fail)
          go_wp2
          go_ret
          exact ⟨by rw [alk_gt HA.out HA1.out HB1.out hgt]; rfl, HB.out.trans ((((HD.out.step _).step _).below).mono HB.out.size)⟩
        · have d2 : decide (b < a) = false := by simpa using hgt
          go_wp2
          go_quiet (fail)
          go_wp2
          go_quiet (fail)
          go_wp2
          go_roundg k
          case measure => omega
          case rel => exact ⟨i + 1, by go_num, by omega, ⟨alk_step HA.out HA1.out HB1.out (by omega) (by omega)⟩, ⟨HD.out.step _⟩⟩
set_option maxHeartbeats 1000000 in
theorem compare_any (w : World) (x y : List Int) (lx : IdOk x) (ly : IdOk y) :
    Calls Tryz.prog 30 #[idv x, idv y] w fun e w' => e = .returned (.int .i64 (cmp x y)) ∧ Below w.heap.size w w' := by
  obtain ⟨W, hW⟩ : ∃ W, W = (w.alloc (.cells (u8s x).toArray 29)).alloc (.cells (u8s y).toArray 29) := ⟨_, rfl⟩
  have h1 : At W ⟨w.heap.size, 0, none⟩ (u8s x) := hW ▸ ((At.new w (u8s x) 29).below (below_alloc (Below.refl _ _) _))
  have h2 : At W ⟨w.heap.size + 1, 0, none⟩ (u8s y) := by
    have := (At.new (w.alloc (.cells (u8s x).toArray 29)) (u8s y) 29)
    have e : (w.alloc (.cells (u8s x).toArray 29)).heap.size = w.heap.size + 1 := by simp
    rw [e] at this
    exact hW ▸ this
  have HB : Aside0 (Below w.heap.size w W) := ⟨hW ▸ (below_alloc (below_alloc (Below.refl _ _) _) _)⟩
  have H1 := Aside0.mk h1
  have H2 := Aside0.mk h2
  have HX := Aside0.mk lx
  have HY := Aside0.mk ly
  have HW := Aside0.mk hW
  clear h1 h2 hW lx ly
  unfold idv
  go_enter Tryz.func30, Tryz.ntmps30
  go_wp2
  rw [← HW.out]
  go_loopg [5] 32 (fun k v5 w' => ∃ i : Nat, v5 = .int .i64 i ∧ i + k = 32 ∧ Aside0 (Alk x y i) ∧ Aside0 (Drawn0 W w'))
  case atStart => exact ⟨0, rfl, rfl, ⟨rfl⟩, ⟨Drawn0.refl _⟩⟩
  case round =>
    obtain ⟨i, rfl, hik, HA, HD⟩ := hrel
    cases gk with
    | zero =>
      have hd : decide ((i : Int) < 32) = false := by simp; omega
      have hi : Aside0 (i = 32) := ⟨by omega⟩
      clear hik
      go_wp2
      go_ret
      exact ⟨by rw [alk_end HA.out (by rw [HX.out.len, hi.out]; exact Nat.le_refl _)]; rfl, HB.out.trans ((HD.out.below).mono HB.out.size)⟩
    | succ k =>
      have hi : i < 32 := by omega
      have hi1 : (i : Int) < 32 := by omega
      obtain ⟨a, ha⟩ : ∃ a, x[i]? = some a := ⟨_, List.getElem?_eq_getElem (by rw [HX.out.len]; exact hi)⟩
      obtain ⟨b, hb⟩ : ∃ b, y[i]? = some b := ⟨_, List.getElem?_eq_getElem (by rw [HY.out.len]; exact hi)⟩
      have c1 := (H1.out.below HD.out.below).u8 ha
      have c2 := (H2.out.below HD.out.below).u8 hb
      rw [Addr.add_mid, Nat.zero_add] at c1 c2
      have HA1 := Aside0.mk ha
      have HB1 := Aside0.mk hb
      clear ha hb
      by_cases hlt : a < b
      · go_wp2
        go_quiet (fail)
        go_wp2
        go_ret
        exact ⟨by rw [alk_lt HA.out HA1.out HB1.out hlt]; rfl, HB.out.trans (((HD.out.step _).below).mono HB.out.size)⟩
      · have d1 : decide (a < b) = false := by simpa using hlt
        by_cases hgt : b < a
        · go_wp2
          go_quiet (fail)
          go_wp2
          go_quiet (fail)
          go_wp2
          go_ret
          exact ⟨by rw [alk_gt HA.out HA1.out HB1.out hgt]; rfl, HB.out.trans ((((HD.out.step _).step _).below).mono HB.out.size)⟩
        · have d2 : decide (b < a) = false := by simpa using hgt
          go_wp2
          go_quiet (fail)
          go_wp2
          go_quiet (fail)
          go_wp2
          go_roundg k
          case measure => omega
          case rel => exact ⟨i + 1, by go_num, by omega, ⟨alk_step HA.out HA1.out HB1.out (by omega) (by omega)⟩, ⟨HD.out.step _⟩⟩
end Go.Proofs.YtdekmeanlcpenaaGreatDoor.Mid

namespace Go.Proofs.YtdekmeanlcpenaaGreatDoor.Mid

theorem idv_inj {x y : List Int} (h : idv x = idv y) : x = y := by
  have h1 : (u8s x).toArray = (u8s y).toArray := by injection h
  exact u8s_inj (by simpa using congrArg Array.toList h1)

/-- The keys behind i of the actions. -/
def Asked (qas : List (List Int)) (i : Nat) (ks : List Value) : Prop := ∀ v, v ∈ ks ↔ ∃ a ∈ qas.take i, v = idv a
theorem asked_none (qas : List (List Int)) : Asked qas 0 [] := fun v => by simp
theorem asked_step {qas : List (List Int)} {i : Nat} {a : List Int} {ks ks1 : List Value} (h : Asked qas i ks) (ha : qas[i]? = some a) (h1 : ∀ v, v ∈ ks1 ↔ v ∈ ks ∨ v = idv a) : Asked qas (i + 1) ks1 := by
  intro v
  rw [h1, h v, List.take_add_one, ha]
  constructor
  · rintro (⟨b, hb, rfl⟩ | rfl)
    · exact ⟨b, List.mem_append_left _ hb, rfl⟩
    · exact ⟨a, by simp, rfl⟩
  · rintro ⟨b, hb, rfl⟩
    rcases List.mem_append.1 hb with hb | hb
    · exact .inl ⟨b, hb, rfl⟩
    · simp at hb
      exact .inr (by rw [hb])
/-- The keys behind i of the results. -/
def Remn (rs : List Res) (qas : List (List Int)) (i : Nat) (ks : List Value) : Prop := ∀ v, v ∈ ks ↔ ∃ a, v = idv a ∧ a ∈ qas ∧ ∀ r ∈ rs.take i, r.act ≠ a
theorem left_of_asked {rs : List Res} {qas : List (List Int)} {n : Nat} {ks : List Value} (h : Asked qas n ks) (hn : qas.length ≤ n) : Remn rs qas 0 ks := by
  intro v
  rw [h v, List.take_of_length_le hn]
  exact ⟨fun ⟨a, ha, e⟩ => ⟨a, e, ha, by simp⟩, fun ⟨a, e, ha, _⟩ => ⟨a, ha, e⟩⟩
section
variable {rs : List Res} {qas : List (List Int)} {i : Nat} {r : Res} {ks ks1 : List Value}
theorem left_look (T : Table rs) (ok : ∀ r ∈ rs, ResOk r) (h : Remn rs qas i ks) (hr : rs[i]? = some r) : idv r.act ∈ ks ↔ r.act ∈ qas := by
  rw [h]
  constructor
  · rintro ⟨a, e, ha, _⟩
    rw [idv_inj e]; exact ha
  · intro ha
    refine ⟨r.act, rfl, ha, fun s hs e => ?_⟩
    obtain ⟨j, hj⟩ := List.mem_iff_getElem?.1 hs
    rw [List.getElem?_take] at hj
    split at hj
    · have := T.once ok hj hr e; omega
    · cases hj
theorem left_in (h : Remn rs qas i ks) (hr : rs[i]? = some r) (h1 : ∀ v, v ∈ ks1 ↔ v ∈ ks ∧ v ≠ idv r.act) : Remn rs qas (i + 1) ks1 := by
  intro v
  rw [h1, h v, List.take_add_one, hr]
  constructor
  · rintro ⟨⟨a, rfl, ha, hn⟩, hne⟩
    refine ⟨a, rfl, ha, fun s hs => ?_⟩
    rcases List.mem_append.1 hs with hs | hs
    · exact hn s hs
    · simp at hs
      subst hs
      exact fun e => hne (by rw [e])
  · rintro ⟨a, rfl, ha, hn⟩
    refine ⟨⟨a, rfl, ha, fun s hs => hn s (List.mem_append_left _ hs)⟩, fun e => ?_⟩
    exact hn r (by simp) (idv_inj e).symm
theorem left_out (h : Remn rs qas i ks) (hr : rs[i]? = some r) (hne : r.act ∉ qas) : Remn rs qas (i + 1) ks := by
  intro v
  rw [h v, List.take_add_one, hr]
  constructor
  · rintro ⟨a, rfl, ha, hn⟩
    refine ⟨a, rfl, ha, fun s hs => ?_⟩
    rcases List.mem_append.1 hs with hs | hs
    · exact hn s hs
    · simp at hs
      subst hs
      exact fun e => hne (by rw [e]; exact ha)
  · rintro ⟨a, rfl, ha, hn⟩
    exact ⟨a, rfl, ha, fun s hs => hn s (List.mem_append_left _ hs)⟩
theorem left_end (h : Remn rs qas i ks) (hi : rs.length ≤ i) (a : List Int) : idv a ∈ ks ↔ Lacks rs qas a := by
  rw [h, List.take_of_length_le hi]
  constructor
  · rintro ⟨b, e, hb, hn⟩
    rw [idv_inj e]; exact ⟨hb, hn⟩
  · rintro ⟨hb, hn⟩
    exact ⟨a, rfl, hb, hn⟩
theorem pick_in (hr : rs[i]? = some r) (ha : r.act ∈ qas) : pickS (rs.take (i + 1)) qas = pickS (rs.take i) qas ++ [r] := by
  rw [pickS, List.take_add_one, hr, List.filter_append]
  simp [pickS, ha]
theorem pick_out (hr : rs[i]? = some r) (ha : r.act ∉ qas) : pickS (rs.take (i + 1)) qas = pickS (rs.take i) qas := by
  rw [pickS, List.take_add_one, hr, List.filter_append]
  simp [pickS, ha]
theorem pick_all (hi : rs.length ≤ i) : pickS (rs.take i) qas = pickS rs qas := by rw [List.take_of_length_le hi]
theorem pick_length : (pickS rs qas).length ≤ rs.length := List.length_filter_le ..
theorem pick_ok (ok : ∀ r ∈ rs, ResOk r) : ∀ r ∈ pickS rs qas, ResOk r := fun r hr => ok r (List.mem_filter.1 hr).1
end

/-- What the last loop knows: which keys it has seen, whether there was one, and the least of them. -/
structure Sought (ks left : List Value) (first : Bool) (least : List Int) : Prop where
  none : first = true → (∀ v ∈ ks, v ∈ left) ∧ least = List.replicate 32 0
  some : first = false → Least (fun a => idv a ∈ ks ∧ idv a ∉ left) least
theorem sought_start (ks : List Value) : Sought ks ks true (List.replicate 32 0) := ⟨fun _ => ⟨fun _ h => h, rfl⟩, fun h => by cases h⟩
theorem sought_step {ks left left1 : List Value} {first : Bool} {least a : List Int} (hk : ∀ b, idv b ∈ ks → IdOk b) (hla : idv a ∈ ks) (h : Sought ks left first least) (h1 : ∀ v, v ∈ left1 ↔ v ∈ left ∧ v ≠ idv a) :
    Sought ks left1 false (if first = true ∨ cmp a least < 0 then a else least) := by
  refine ⟨fun h => (by cases h), fun _ => ?_⟩
  have new : ∀ b, (idv b ∈ ks ∧ idv b ∉ left1) ↔ (idv b ∈ ks ∧ idv b ∉ left) ∨ b = a := by
    intro b
    rw [h1]
    constructor
    · rintro ⟨hb, hn⟩
      by_cases hba : idv b = idv a
      · exact .inr (idv_inj hba)
      · exact .inl ⟨hb, fun hl => hn ⟨hl, hba⟩⟩
    · rintro (⟨hb, hn⟩ | rfl)
      · exact ⟨hb, fun hl => hn hl.1⟩
      · exact ⟨hla, fun hl => hl.2 rfl⟩
  cases first with
  | true =>
    rw [if_pos (.inl rfl)]
    refine ⟨(new a).2 (.inr rfl), fun b hb => ?_⟩
    rcases (new b).1 hb with ⟨hb1, hb2⟩ | rfl
    · exact absurd ((h.none rfl).1 _ hb1) hb2
    · rw [cmp_self]; decide
  | false =>
    have hL := h.some rfl
    by_cases hc : cmp a least < 0
    · rw [if_pos (.inr hc)]
      refine ⟨(new a).2 (.inr rfl), fun b hb => ?_⟩
      rcases (new b).1 hb with hb1 | rfl
      · have l1 := (hk a hla).len
        have l2 := (hk _ hL.1.1).len
        have l3 := (hk _ hb1.1).len
        exact cmp_trans (y := least) (by omega) (by omega) (by omega) (hL.2 b hb1)
      · rw [cmp_self]; decide
    · rw [if_neg (by simp [hc])]
      refine ⟨(new least).2 (.inl hL.1), fun b hb => ?_⟩
      rcases (new b).1 hb with hb1 | rfl
      · exact hL.2 b hb1
      · rw [cmp_anti]
        have := cmp_vals b least
        omega
theorem sought_end {ks : List Value} {first : Bool} {least : List Int} (h : Sought ks [] first least) : (first = true → (∀ a, idv a ∉ ks) ∧ least = List.replicate 32 0) ∧ (first = false → Least (fun a => idv a ∈ ks) least) := by
  refine ⟨fun hf => ⟨fun a ha => by simpa using (h.none hf).1 _ ha, (h.none hf).2⟩, fun hf => ?_⟩
  have := h.some hf
  simpa using this
end Go.Proofs.YtdekmeanlcpenaaGreatDoor.Mid

namespace Go.Proofs.YtdekmeanlcpenaaGreatDoor.Mid
open Go.RowKit Go.Proofs.YtdekmeanlcpenaaGreatDoorW.PrintWords

theorem laidOut : laidOutB Tryz.prog = true := by kernel_rfl
theorem K29 : Go.Maps.Keyed Tryz.prog 29 := Go.Maps.Keyed.of_law (deep_law_laid laidOut (m := 4) (by decide) (of_decide_eq_true (by kernel_rfl)) (by kernel_rfl) (by kernel_rfl))
theorem K33 : Go.Maps.Keyed Tryz.prog 33 := Go.Maps.Keyed.of_law (deep_law_laid laidOut (m := 4) (by decide) (of_decide_eq_true (by kernel_rfl)) (by kernel_rfl) (by kernel_rfl))
theorem c29 : Tryz.prog.cellsOf 29 = 32 := by kernel_rfl
theorem c33 : Tryz.prog.cellsOf 33 = 65 := by kernel_rfl
theorem c5 : Tryz.prog.cellsOf 5 = 1 := by kernel_rfl
theorem c3 : Tryz.prog.cellsOf 3 = 1 := by kernel_rfl
theorem typesMany : decide (3 ≤ Tryz.prog.types.size) = true := by kernel_rfl
theorem typesSome : ∃ m, Tryz.prog.types.size + 1 = m + 4 := ⟨Tryz.prog.types.size - 3, by have := of_decide_eq_true typesMany; omega⟩
theorem keyT29 : Tryz.prog.keyType 29 = true := by kernel_rfl
theorem keyT33 : Tryz.prog.keyType 33 = true := by kernel_rfl
theorem keyOf_id {x : List Int} (h : IdOk x) : ∃ l, keyOf Tryz.prog 29 (idv x) = some l := by
  obtain ⟨m, hm⟩ := typesSome
  have hk := keyLits_u8s (P := Tryz.prog) (d := m + 2) Tryz.underlying29 Tryz.underlying5 c5 c29 h.len h.bytes
  refine ⟨.string (keyBytes (x.map (Lit.int .u8))), ?_⟩
  unfold keyOf idv
  simp only [Tryz.underlying29]
  rw [if_pos (by simp [keyT29, Value.formed, Tryz.underlying29, c29, u8s_length, h.len]), hm]
  simp only [Value.cells]
  rw [hk]
  rfl
theorem eq29 (w : World) (x y : List Int) (hx : IdOk x) (hy : IdOk y) : (Op.equal 29 (idv x) (idv y)).run Tryz.prog w = .ok (decide (x = y)) w := by
  obtain ⟨lx, ex⟩ := keyOf_id hx
  obtain ⟨ly, ey⟩ := keyOf_id hy
  obtain ⟨r, h1, h2⟩ := run_equal_deep (P := Tryz.prog) w (m := 4) (by decide) (k := 29) (by kernel_rfl) (by kernel_rfl) ex ey
  have h3 : (r = true) ↔ x = y := h2.trans ⟨fun e => idv_inj (K29.inj ex (by rw [ey, e])), fun e => by subst e; exact Option.some.inj (ex.symm.trans ey)⟩
  have h4 : r = decide (x = y) := by cases r <;> simp_all
  rw [← h4]
  exact h1

theorem resC_act {r : Res} (h : ResOk r) : ((resC r).drop 0).take 32 = u8s r.act := by
  rw [List.drop_zero, resC, List.take_append_of_le_length (by rw [u8s_length, h.act.len]; exact Nat.le_refl _), List.take_of_length_le (by rw [u8s_length, h.act.len]; exact Nat.le_refl _)]
theorem resC_root {r : Res} (h : ResOk r) : ((resC r).drop 32).take 32 = u8s r.root := by
  have ha : (u8s r.act).length = 32 := by rw [u8s_length, h.act.len]
  have hb : (u8s r.root).length = 32 := by rw [u8s_length, h.root.len]
  rw [resC, List.drop_append_of_le_length (by omega), List.drop_of_length_le (by omega), List.nil_append, List.take_append_of_le_length (by omega), List.take_of_length_le (by omega)]
theorem resC_code {r : Res} (h : ResOk r) : ((resC r).drop 64).take 1 = [.int .i64 r.code] := by
  have ha : (u8s r.act).length = 32 := by rw [u8s_length, h.act.len]
  have hb : (u8s r.root).length = 32 := by rw [u8s_length, h.root.len]
  have : resC r = (u8s r.act ++ u8s r.root) ++ [.int .i64 r.code] := by rw [resC, List.append_assoc]
  rw [this, List.drop_append_of_le_length (by rw [List.length_append]; omega), List.drop_of_length_le (by rw [List.length_append]; omega)]
  rfl
theorem wf_i64' {n : Int} (h : -9223372036854775808 ≤ n ∧ n ≤ 9223372036854775807) : (Lit.int .i64 n).wf = true := by
  have h1 : IntKind.i64.min = -9223372036854775808 := rfl
  have h2 : IntKind.i64.max = 9223372036854775807 := rfl
  simp [Lit.wf, h1, h2]; omega
theorem keyOf_res {r : Res} (h : ResOk r) : ∃ l, keyOf Tryz.prog 33 (resv r) = some l := by
  obtain ⟨m, hm⟩ := typesSome
  have h1 := keyLits_u8s (P := Tryz.prog) (d := m + 1) Tryz.underlying29 Tryz.underlying5 c5 c29 h.act.len h.act.bytes
  have h2 := keyLits_u8s (P := Tryz.prog) (d := m + 1) Tryz.underlying29 Tryz.underlying5 c5 c29 h.root.len h.root.bytes
  have h3 : Tryz.prog.keyLits (m + 3) 3 [.int .i64 r.code] = some [.int .i64 r.code] := by
    unfold Program.keyLits
    simp only [Tryz.underlying3]
    rw [if_pos ⟨trivial, wf_i64' h.code⟩]
  have hk : Tryz.prog.keyLits (m + 4) 33 (resC r) = some (r.act.map (Lit.int .u8) ++ (r.root.map (Lit.int .u8) ++ [.int .i64 r.code])) := by
    unfold Program.keyLits
    simp only [Tryz.underlying33]
    rw [if_pos ⟨by rw [resC_length h, c33], by simp⟩]
    simp only [List.mapM_cons, List.mapM_nil, c29, c3, resC_act h, resC_root h, resC_code h]
    simp [h1, h2, h3]
  refine ⟨.string (keyBytes (r.act.map (Lit.int .u8) ++ (r.root.map (Lit.int .u8) ++ [.int .i64 r.code]))), ?_⟩
  unfold keyOf resv
  simp only [Tryz.underlying33]
  rw [if_pos (by simp [keyT33, Value.formed, Tryz.underlying33, c33, resC_length h]), hm]
  simp only [Value.cells]
  rw [hk]
  rfl
theorem resC_inj {r s : Res} (hr : ResOk r) (hs : ResOk s) (h : resC r = resC s) : r = s := by
  have h1 := congrArg (fun l => (l.drop 0).take 32) h
  have h2 := congrArg (fun l => (l.drop 32).take 32) h
  have h3 := congrArg (fun l => (l.drop 64).take 1) h
  simp only [resC_act hr, resC_act hs, resC_root hr, resC_root hs, resC_code hr, resC_code hs] at h1 h2 h3
  have e1 := u8s_inj h1
  have e2 := u8s_inj h2
  have e3 : r.code = s.code := by
    injection h3 with h3
    injection h3
  cases r; cases s; simp_all
theorem eq33 (w : World) (r s : Res) (hr : ResOk r) (hs : ResOk s) : (Op.equal 33 (resv r) (resv s)).run Tryz.prog w = .ok (decide (r = s)) w := by
  obtain ⟨lx, ex⟩ := keyOf_res hr
  obtain ⟨ly, ey⟩ := keyOf_res hs
  obtain ⟨q, h1, h2⟩ := run_equal_deep (P := Tryz.prog) w (m := 4) (by decide) (k := 33) (by kernel_rfl) (by kernel_rfl) ex ey
  have h3 : (q = true) ↔ r = s := h2.trans ⟨fun e => by
    have := K33.inj ex (by rw [ey, e])
    have h5 : (resC r).toArray = (resC s).toArray := by injection this
    exact resC_inj hr hs (by simpa using congrArg Array.toList h5), fun e => by
    subst e
    exact Option.some.inj (ex.symm.trans ey)⟩
  have h4 : q = decide (r = s) := by
    by_cases h : r = s
    · rw [h3.2 h, decide_eq_true h]
    · rw [decide_eq_false h]
      cases q
      · rfl
      · exact absurd (h3.1 rfl) h
  rw [← h4]
  exact h1
end Go.Proofs.YtdekmeanlcpenaaGreatDoor.Mid
