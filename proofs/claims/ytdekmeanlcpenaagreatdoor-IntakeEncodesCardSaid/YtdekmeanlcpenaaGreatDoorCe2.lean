import Derived.Test.YtdekmeanlcpenaaGreatDoorCe1
import Derived.Maps.Keyed
import Derived.DeepKeys4
import Derived.Deep.RegionHeld3
import Derived.BigQuiet
import Derived.Maps.RangeRun
import Derived.Maps.Range
import Derived.Below
import Derived.WalkKit
import Derived.Maps.RangeWalk
import Derived.Maps.OwnSet
import Derived.OwnWalk
set_option linter.unusedSimpArgs false
set_option linter.unusedVariables false
namespace Go.Proofs.YtdekmeanlcpenaaGreatDoor.Mid

theorem idv_inj {x y : List Int} (h : idv x = idv y) : x = y := by
  have h1 : (u8s x).toArray = (u8s y).toArray := by injection h
  exact u8s_inj (by simpa using congrArg Array.toList h1)

/-- The keys behind i of the actions. -/
def Asked (qas : List (List Int)) (i : Nat) (ks : List Value) : Prop := ∀ v, v ∈ ks ↔ ∃ a ∈ qas.take i, v = idv a
theorem asked_none (qas : List (List Int)) : Asked qas 0 [] := fun v => by simp
theorem asked_step {qas : List (List Int)} {i : Nat} {a : List Int} {ks ks1 : List Value} (h : Asked qas i ks) (ha : qas[i]? = some a) (h1 : ∀ v, v ∈ ks1 ↔ v ∈ ks ∨ v = idv a) : Asked qas (i + 1) ks1 := by
  intro v
  rw [h1, h v, List.take_add_one, ha]
  constructor
  · rintro (⟨b, hb, rfl⟩ | rfl)
    · exact ⟨b, List.mem_append_left _ hb, rfl⟩
    · exact ⟨a, by simp, rfl⟩
  · rintro ⟨b, hb, rfl⟩
    rcases List.mem_append.1 hb with hb | hb
    · exact .inl ⟨b, hb, rfl⟩
    · simp at hb
      exact .inr (by rw [hb])
/-- The keys behind i of the results. -/
def Remn (rs : List Res) (qas : List (List Int)) (i : Nat) (ks : List Value) : Prop := ∀ v, v ∈ ks ↔ ∃ a, v = idv a ∧ a ∈ qas ∧ ∀ r ∈ rs.take i, r.act ≠ a
theorem left_of_asked {rs : List Res} {qas : List (List Int)} {n : Nat} {ks : List Value} (h : Asked qas n ks) (hn : qas.length ≤ n) : Remn rs qas 0 ks := by
  intro v
  rw [h v, List.take_of_length_le hn]
  exact ⟨fun ⟨a, ha, e⟩ => ⟨a, e, ha, by simp⟩, fun ⟨a, e, ha, _⟩ => ⟨a, ha, e⟩⟩
section
variable {rs : List Res} {qas : List (List Int)} {i : Nat} {r : Res} {ks ks1 : List Value}
theorem left_look (T : Table rs) (ok : ∀ r ∈ rs, ResOk r) (h : Remn rs qas i ks) (hr : rs[i]? = some r) : idv r.act ∈ ks ↔ r.act ∈ qas := by
  rw [h]
  constructor
  · rintro ⟨a, e, ha, _⟩
    rw [idv_inj e]; exact ha
  · intro ha
    refine ⟨r.act, rfl, ha, fun s hs e => ?_⟩
    obtain ⟨j, hj⟩ := List.mem_iff_getElem?.1 hs
    rw [List.getElem?_take] at hj
    split at hj
    · have := T.once ok hj hr e; omega
    · cases hj
theorem left_in (h : Remn rs qas i ks) (hr : rs[i]? = some r) (h1 : ∀ v, v ∈ ks1 ↔ v ∈ ks ∧ v ≠ idv r.act) : Remn rs qas (i + 1) ks1 := by
  intro v
  rw [h1, h v, List.take_add_one, hr]
  constructor
  · rintro ⟨⟨a, rfl, ha, hn⟩, hne⟩
    refine ⟨a, rfl, ha, fun s hs => ?_⟩
    rcases List.mem_append.1 hs with hs | hs
    · exact hn s hs
    · simp at hs
      subst hs
      exact fun e => hne (by rw [e])
  · rintro ⟨a, rfl, ha, hn⟩
    refine ⟨⟨a, rfl, ha, fun s hs => hn s (List.mem_append_left _ hs)⟩, fun e => ?_⟩
    exact hn r (by simp) (idv_inj e).symm
theorem left_out (h : Remn rs qas i ks) (hr : rs[i]? = some r) (hne : r.act ∉ qas) : Remn rs qas (i + 1) ks := by
  intro v
  rw [h v, List.take_add_one, hr]
  constructor
  · rintro ⟨a, rfl, ha, hn⟩
    refine ⟨a, rfl, ha, fun s hs => ?_⟩
    rcases List.mem_append.1 hs with hs | hs
    · exact hn s hs
    · simp at hs
      subst hs
      exact fun e => hne (by rw [e]; exact ha)
  · rintro ⟨a, rfl, ha, hn⟩
    exact ⟨a, rfl, ha, fun s hs => hn s (List.mem_append_left _ hs)⟩
theorem left_end (h : Remn rs qas i ks) (hi : rs.length ≤ i) (a : List Int) : idv a ∈ ks ↔ Lacks rs qas a := by
  rw [h, List.take_of_length_le hi]
  constructor
  · rintro ⟨b, e, hb, hn⟩
    rw [idv_inj e]; exact ⟨hb, hn⟩
  · rintro ⟨hb, hn⟩
    exact ⟨a, rfl, hb, hn⟩
theorem pick_in (hr : rs[i]? = some r) (ha : r.act ∈ qas) : pickS (rs.take (i + 1)) qas = pickS (rs.take i) qas ++ [r] := by
  rw [pickS, List.take_add_one, hr, List.filter_append]
  simp [pickS, ha]
theorem pick_out (hr : rs[i]? = some r) (ha : r.act ∉ qas) : pickS (rs.take (i + 1)) qas = pickS (rs.take i) qas := by
  rw [pickS, List.take_add_one, hr, List.filter_append]
  simp [pickS, ha]
theorem pick_all (hi : rs.length ≤ i) : pickS (rs.take i) qas = pickS rs qas := by rw [List.take_of_length_le hi]
theorem pick_length : (pickS rs qas).length ≤ rs.length := List.length_filter_le ..
theorem pick_ok (ok : ∀ r ∈ rs, ResOk r) : ∀ r ∈ pickS rs qas, ResOk r := fun r hr => ok r (List.mem_filter.1 hr).1
end

/-- What the last loop knows: which keys it has seen, whether there was one, and the least of them. -/
structure Sought (ks left : List Value) (first : Bool) (least : List Int) : Prop where
  none : first = true → (∀ v ∈ ks, v ∈ left) ∧ least = List.replicate 32 0
  some : first = false → Least (fun a => idv a ∈ ks ∧ idv a ∉ left) least
theorem sought_start (ks : List Value) : Sought ks ks true (List.replicate 32 0) := ⟨fun _ => ⟨fun _ h => h, rfl⟩, fun h => by cases h⟩
theorem sought_step {ks left left1 : List Value} {first : Bool} {least a : List Int} (hk : ∀ b, idv b ∈ ks → IdOk b) (hla : idv a ∈ ks) (h : Sought ks left first least) (h1 : ∀ v, v ∈ left1 ↔ v ∈ left ∧ v ≠ idv a) :
    Sought ks left1 false (if first = true ∨ cmp a least < 0 then a else least) := by
  refine ⟨fun h => (by cases h), fun _ => ?_⟩
  have new : ∀ b, (idv b ∈ ks ∧ idv b ∉ left1) ↔ (idv b ∈ ks ∧ idv b ∉ left) ∨ b = a := by
    intro b
    rw [h1]
    constructor
    · rintro ⟨hb, hn⟩
      by_cases hba : idv b = idv a
      · exact .inr (idv_inj hba)
      · exact .inl ⟨hb, fun hl => hn ⟨hl, hba⟩⟩
    · rintro (⟨hb, hn⟩ | rfl)
      · exact ⟨hb, fun hl => hn hl.1⟩
      · exact ⟨hla, fun hl => hl.2 rfl⟩
  cases first with
  | true =>
    rw [if_pos (.inl rfl)]
    refine ⟨(new a).2 (.inr rfl), fun b hb => ?_⟩
    rcases (new b).1 hb with ⟨hb1, hb2⟩ | rfl
    · exact absurd ((h.none rfl).1 _ hb1) hb2
    · rw [cmp_self]; decide
  | false =>
    have hL := h.some rfl
    by_cases hc : cmp a least < 0
    · rw [if_pos (.inr hc)]
      refine ⟨(new a).2 (.inr rfl), fun b hb => ?_⟩
      rcases (new b).1 hb with hb1 | rfl
      · have l1 := (hk a hla).len
        have l2 := (hk _ hL.1.1).len
        have l3 := (hk _ hb1.1).len
        exact cmp_trans (y := least) (by omega) (by omega) (by omega) (hL.2 b hb1)
      · rw [cmp_self]; decide
    · rw [if_neg (by simp [hc])]
      refine ⟨(new least).2 (.inl hL.1), fun b hb => ?_⟩
      rcases (new b).1 hb with hb1 | rfl
      · exact hL.2 b hb1
      · rw [cmp_anti]
        have := cmp_vals b least
        omega
theorem sought_end {ks : List Value} {first : Bool} {least : List Int} (h : Sought ks [] first least) : (first = true → (∀ a, idv a ∉ ks) ∧ least = List.replicate 32 0) ∧ (first = false → Least (fun a => idv a ∈ ks) least) := by
  refine ⟨fun hf => ⟨fun a ha => by simpa using (h.none hf).1 _ ha, (h.none hf).2⟩, fun hf => ?_⟩
  have := h.some hf
  simpa using this
end Go.Proofs.YtdekmeanlcpenaaGreatDoor.Mid

namespace Go.Proofs.YtdekmeanlcpenaaGreatDoor.Mid
open Go.RowKit Go.Proofs.YtdekmeanlcpenaaGreatDoorW.PrintWords

theorem laidOut : laidOutB Tryz.prog = true := by kernel_rfl
theorem K29 : Go.Maps.Keyed Tryz.prog 29 := Go.Maps.Keyed.of_law (deep_law_laid laidOut (m := 4) (by decide) (of_decide_eq_true (by kernel_rfl)) (by kernel_rfl) (by kernel_rfl))
theorem K33 : Go.Maps.Keyed Tryz.prog 33 := Go.Maps.Keyed.of_law (deep_law_laid laidOut (m := 4) (by decide) (of_decide_eq_true (by kernel_rfl)) (by kernel_rfl) (by kernel_rfl))
theorem c29 : Tryz.prog.cellsOf 29 = 32 := by kernel_rfl
theorem c33 : Tryz.prog.cellsOf 33 = 65 := by kernel_rfl
theorem c5 : Tryz.prog.cellsOf 5 = 1 := by kernel_rfl
theorem c3 : Tryz.prog.cellsOf 3 = 1 := by kernel_rfl
theorem typesMany : decide (3 ≤ Tryz.prog.types.size) = true := by kernel_rfl
theorem typesSome : ∃ m, Tryz.prog.types.size + 1 = m + 4 := ⟨Tryz.prog.types.size - 3, by have := of_decide_eq_true typesMany; omega⟩
theorem keyT29 : Tryz.prog.keyType 29 = true := by kernel_rfl
theorem keyT33 : Tryz.prog.keyType 33 = true := by kernel_rfl
theorem keyOf_id {x : List Int} (h : IdOk x) : ∃ l, keyOf Tryz.prog 29 (idv x) = some l := by
  obtain ⟨m, hm⟩ := typesSome
  have hk := keyLits_u8s (P := Tryz.prog) (d := m + 2) Tryz.underlying29 Tryz.underlying5 c5 c29 h.len h.bytes
  refine ⟨.string (keyBytes (x.map (Lit.int .u8))), ?_⟩
  unfold keyOf idv
  simp only [Tryz.underlying29]
  rw [if_pos (by simp [keyT29, Value.formed, Tryz.underlying29, c29, u8s_length, h.len]), hm]
  simp only [Value.cells]
  rw [hk]
  rfl
theorem eq29 (w : World) (x y : List Int) (hx : IdOk x) (hy : IdOk y) : (Op.equal 29 (idv x) (idv y)).run Tryz.prog w = .ok (decide (x = y)) w := by
  obtain ⟨lx, ex⟩ := keyOf_id hx
  obtain ⟨ly, ey⟩ := keyOf_id hy
  obtain ⟨r, h1, h2⟩ := run_equal_deep (P := Tryz.prog) w (m := 4) (by decide) (k := 29) (by kernel_rfl) (by kernel_rfl) ex ey
  have h3 : (r = true) ↔ x = y := h2.trans ⟨fun e => idv_inj (K29.inj ex (by rw [ey, e])), fun e => by subst e; exact Option.some.inj (ex.symm.trans ey)⟩
  have h4 : r = decide (x = y) := by cases r <;> simp_all
  rw [← h4]
  exact h1

theorem resC_act {r : Res} (h : ResOk r) : ((resC r).drop 0).take 32 = u8s r.act := by
  rw [List.drop_zero, resC, List.take_append_of_le_length (by rw [u8s_length, h.act.len]; exact Nat.le_refl _), List.take_of_length_le (by rw [u8s_length, h.act.len]; exact Nat.le_refl _)]
theorem resC_root {r : Res} (h : ResOk r) : ((resC r).drop 32).take 32 = u8s r.root := by
  have ha : (u8s r.act).length = 32 := by rw [u8s_length, h.act.len]
  have hb : (u8s r.root).length = 32 := by rw [u8s_length, h.root.len]
  rw [resC, List.drop_append_of_le_length (by omega), List.drop_of_length_le (by omega), List.nil_append, List.take_append_of_le_length (by omega), List.take_of_length_le (by omega)]
theorem resC_code {r : Res} (h : ResOk r) : ((resC r).drop 64).take 1 = [.int .i64 r.code] := by
  have ha : (u8s r.act).length = 32 := by rw [u8s_length, h.act.len]
  have hb : (u8s r.root).length = 32 := by rw [u8s_length, h.root.len]
  have : resC r = (u8s r.act ++ u8s r.root) ++ [.int .i64 r.code] := by rw [resC, List.append_assoc]
  rw [this, List.drop_append_of_le_length (by rw [List.length_append]; omega), List.drop_of_length_le (by rw [List.length_append]; omega)]
  rfl
theorem wf_i64' {n : Int} (h : -9223372036854775808 ≤ n ∧ n ≤ 9223372036854775807) : (Lit.int .i64 n).wf = true := by
  have h1 : IntKind.i64.min = -9223372036854775808 := rfl
  have h2 : IntKind.i64.max = 9223372036854775807 := rfl
  simp [Lit.wf, h1, h2]; omega
theorem keyOf_res {r : Res} (h : ResOk r) : ∃ l, keyOf Tryz.prog 33 (resv r) = some l := by
  obtain ⟨m, hm⟩ := typesSome
  have h1 := keyLits_u8s (P := Tryz.prog) (d := m + 1) Tryz.underlying29 Tryz.underlying5 c5 c29 h.act.len h.act.bytes
  have h2 := keyLits_u8s (P := Tryz.prog) (d := m + 1) Tryz.underlying29 Tryz.underlying5 c5 c29 h.root.len h.root.bytes
  have h3 : Tryz.prog.keyLits (m + 3) 3 [.int .i64 r.code] = some [.int .i64 r.code] := by
    unfold Program.keyLits
    simp only [Tryz.underlying3]
    rw [if_pos ⟨trivial, wf_i64' h.code⟩]
  have hk : Tryz.prog.keyLits (m + 4) 33 (resC r) = some (r.act.map (Lit.int .u8) ++ (r.root.map (Lit.int .u8) ++ [.int .i64 r.code])) := by
    unfold Program.keyLits
    simp only [Tryz.underlying33]
    rw [if_pos ⟨by rw [resC_length h, c33], by simp⟩]
    simp only [List.mapM_cons, List.mapM_nil, c29, c3, resC_act h, resC_root h, resC_code h]
    simp [h1, h2, h3]
  refine ⟨.string (keyBytes (r.act.map (Lit.int .u8) ++ (r.root.map (Lit.int .u8) ++ [.int .i64 r.code]))), ?_⟩
  unfold keyOf resv
  simp only [Tryz.underlying33]
  rw [if_pos (by simp [keyT33, Value.formed, Tryz.underlying33, c33, resC_length h]), hm]
  simp only [Value.cells]
  rw [hk]
  rfl
theorem resC_inj {r s : Res} (hr : ResOk r) (hs : ResOk s) (h : resC r = resC s) : r = s := by
  have h1 := congrArg (fun l => (l.drop 0).take 32) h
  have h2 := congrArg (fun l => (l.drop 32).take 32) h
  have h3 := congrArg (fun l => (l.drop 64).take 1) h
  simp only [resC_act hr, resC_act hs, resC_root hr, resC_root hs, resC_code hr, resC_code hs] at h1 h2 h3
  have e1 := u8s_inj h1
  have e2 := u8s_inj h2
  have e3 : r.code = s.code := by
    injection h3 with h3
    injection h3
  cases r; cases s; simp_all
theorem eq33 (w : World) (r s : Res) (hr : ResOk r) (hs : ResOk s) : (Op.equal 33 (resv r) (resv s)).run Tryz.prog w = .ok (decide (r = s)) w := by
  obtain ⟨lx, ex⟩ := keyOf_res hr
  obtain ⟨ly, ey⟩ := keyOf_res hs
  obtain ⟨q, h1, h2⟩ := run_equal_deep (P := Tryz.prog) w (m := 4) (by decide) (k := 33) (by kernel_rfl) (by kernel_rfl) ex ey
  have h3 : (q = true) ↔ r = s := h2.trans ⟨fun e => by
    have := K33.inj ex (by rw [ey, e])
    have h5 : (resC r).toArray = (resC s).toArray := by injection this
    exact resC_inj hr hs (by simpa using congrArg Array.toList h5), fun e => by
    subst e
    exact Option.some.inj (ex.symm.trans ey)⟩
  have h4 : q = decide (r = s) := by
    by_cases h : r = s
    · rw [h3.2 h, decide_eq_true h]
    · rw [decide_eq_false h]
      cases q
      · rfl
      · exact absurd (h3.1 rfl) h
  rw [← h4]
  exact h1
end Go.Proofs.YtdekmeanlcpenaaGreatDoor.Mid

namespace Go.Proofs.YtdekmeanlcpenaaGreatDoor.Mid
open Go.RowKit Go.Proofs.YtdekmeanlcpenaaGreatDoorW.PrintWords

/-- The n cells from p on, if they are all there. -/
def rowOf (w : World) (p : Addr) (n : Nat) : Option (List Value) := (List.range n).mapM fun j => w.cell? (p.add j)
theorem rowOf_eq {w : World} {p : Addr} {n : Nat} {cs : List Value} (h : rowOf w p n = some cs) : At w p cs ∧ cs.length = n := by
  unfold rowOf at h
  have key : ∀ (l : List Nat) (cs : List Value), l.mapM (fun j => w.cell? (p.add j)) = some cs → cs.length = l.length ∧ ∀ (i : Nat) j v, l[i]? = some j → cs[i]? = some v → w.cell? (p.add j) = some v := by
    intro l
    induction l with
    | nil => intro cs h; simp at h; subst h; simp
    | cons a l ih =>
      intro cs h
      rw [List.mapM_cons] at h
      cases ha : w.cell? (p.add a) with
      | none => simp [ha] at h
      | some v =>
        cases hl : l.mapM (fun j => w.cell? (p.add j)) with
        | none => simp [ha, hl] at h
        | some vs =>
          simp [ha, hl] at h
          subst h
          obtain ⟨h1, h2⟩ := ih vs hl
          refine ⟨by simp [h1], fun i j u hi hu => ?_⟩
          cases i with
          | zero => simp at hi hu; subst hi hu; exact ha
          | succ i => exact h2 i j u (by simpa using hi) (by simpa using hu)
  obtain ⟨h1, h2⟩ := key _ _ h
  rw [List.length_range] at h1
  exact ⟨fun j v hv => h2 j j v (by have := (List.getElem?_eq_some_iff.1 hv).1; rw [List.getElem?_range (by omega)]) hv, h1⟩
theorem At.row {w : World} {p : Addr} {n : Nat} {cs : List Value} (h : At w p cs) (hn : cs.length = n) : rowOf w p n = some cs := by
  subst hn
  unfold rowOf
  rw [mapM_some (g := fun j => cs.getD j undef)]
  · congr 1
    apply List.ext_getElem?
    intro i
    rw [List.getElem?_map]
    by_cases hi : i < cs.length
    · rw [List.getElem?_range hi, List.getElem?_eq_getElem hi]
      simp [List.getD_eq_getElem?_getD, List.getElem?_eq_getElem hi]
    · rw [List.getElem?_eq_none (by simpa using hi), List.getElem?_eq_none (by simpa using hi)]
      rfl
  · intro j hj
    have hj' : j < cs.length := List.mem_range.1 hj
    refine h j _ ?_
    rw [List.getD_eq_getElem?_getD, List.getElem?_eq_getElem hj']
    rfl
theorem rowOf_drew (w : World) (p : Addr) (n : Nat) : rowOf w.drew p n = rowOf w p n := rfl
theorem rowOf_drewN (w : World) (p : Addr) (n m : Nat) : rowOf (w.drewN m) p n = rowOf w p n := by
  induction m generalizing w with
  | zero => rfl
  | succ m ih => exact (rowOf_drew (w.drewN m) p n).trans (ih w)
/-- A whole row is read. -/
def ldRow (ty : TypeId) (x : Value) : Sem Value := Instr.loadAt ty x
theorem load33_eq (x : Value) : Instr.loadAt 33 x = ldRow 33 x := rfl
theorem load29_eq (x : Value) : Instr.loadAt 29 x = ldRow 29 x := rfl
theorem load33_row (w : World) (p : Addr) : (ldRow 33 (.pointer (some p))).run Tryz.prog w = match rowOf w p 65 with
    | some cs => .ok (.agg cs.toArray) w
    | none => (loadVar 33 p).run Tryz.prog w := by
  unfold ldRow
  cases h : rowOf w p 65 with
  | none => simp only [Instr.loadAt, Instr.sureAddr, Sem.run_bind, Sem.run_pure, Result.andThen_ok]
  | some cs =>
    obtain ⟨h1, h2⟩ := rowOf_eq h
    exact run_load w p 33 cs _ h1 Tryz.underlying33 rfl (by rw [h2]; exact info33)
theorem load29_row (w : World) (p : Addr) : (ldRow 29 (.pointer (some p))).run Tryz.prog w = match rowOf w p 32 with
    | some cs => .ok (.agg cs.toArray) w
    | none => (loadVar 29 p).run Tryz.prog w := by
  unfold ldRow
  cases h : rowOf w p 32 with
  | none => simp only [Instr.loadAt, Instr.sureAddr, Sem.run_bind, Sem.run_pure, Result.andThen_ok]
  | some cs =>
    obtain ⟨h1, h2⟩ := rowOf_eq h
    exact run_load w p 29 cs _ h1 Tryz.underlying29 rfl (by rw [h2]; exact info29)
theorem At.res {w : World} {p : Addr} {r : Res} (hr : ResOk r) (h : At w p (resC r)) : rowOf w p 65 = some (resC r) := h.row (resC_length hr)
theorem At.id {w : World} {p : Addr} {x : List Int} (hx : IdOk x) (h : At w p (u8s x)) : rowOf w p 32 = some (u8s x) := h.row (by rw [u8s_length, hx.len])
theorem z33 : Tryz.zeroCells33.size = 65 := by kernel_rfl
section
variable {ops : Array Oper} {rest : List Oper} {op : Oper} {a : Act} {w : World} {Q : Exit → Act → World → Prop}
theorem store33_new (hgd : op.guard = none) (hd : op.dst = none) (x y : Operand) (ho : op.op = .store 33 x y) (r : Res) (hr : ResOk r) (hx : a.eval x = .pointer (some ⟨w.heap.size, 0, none⟩)) (hy : a.eval y = .agg (resC r).toArray)
    (h : wpList Tryz.prog ops Q rest a (w.alloc (.cells (resC r).toArray 33))) : wpList Tryz.prog ops Q (op :: rest) a (w.alloc (.cells Tryz.zeroCells33 33)) :=
  wpList_store_new hgd 33 x y ho _ (resC r) hx hy (by rw [z33, resC_length hr]) (by rw [resC_length hr]; exact info33) resC_one (by rw [hd]; exact h)
theorem store29_new (hgd : op.guard = none) (hd : op.dst = none) (x y : Operand) (ho : op.op = .store 29 x y) (zs : Array Value) (hz : zs.size = 32) (i : List Int) (hi : IdOk i) (hx : a.eval x = .pointer (some ⟨w.heap.size, 0, none⟩)) (hy : a.eval y = .agg (u8s i).toArray)
    (h : wpList Tryz.prog ops Q rest a (w.alloc (.cells (u8s i).toArray 29))) : wpList Tryz.prog ops Q (op :: rest) a (w.alloc (.cells zs 29)) :=
  wpList_store_new hgd 29 x y ho _ (u8s i) hx hy (by rw [hz, u8s_length, hi.len]) (by rw [u8s_length, hi.len]; exact info29) u8s_one (by rw [hd]; exact h)
end
theorem below_of {w1 w2 w3 : World} {b : Nat} (h : Below b w1 w2) (h2 : Below w2.heap.size w2 w3) (hb : b ≤ w1.heap.size) : Below b w1 w3 := h.trans (h2.mono (Nat.le_trans hb h.size))
theorem At.blk {w : World} {b t : Nat} {cs : List Value} (h : w.heap[b]? = some (.cells cs.toArray t (0, 0))) : At w ⟨b, 0, none⟩ cs := fun j v hv => by
  rw [Addr.add_mid, Nat.zero_add, blk_cell h]
  simpa using hv
section
variable {P : Program} {ops : Array Oper} {rest : List Oper} {op : Oper} {a : Act} {w : World} {Q : Exit → Act → World → Prop} {K : Act → World → Prop}
theorem setCells_blk (w : World) {b t : Nat} {cur : Array Value} (hh : w.heap[b]? = some (.cells cur t (0, 0))) {cs : List Value} (hl : cur.size = cs.length) :
    (w.setCells b 0 cs).heap[b]? = some (.cells cs.toArray t (0, 0)) ∧ w.grownBy (w.setCells b 0 cs) (some b) ∧ (w.setCells b 0 cs).heap.size = w.heap.size := by
  obtain ⟨cur', h3, h4, h5⟩ := setCells_row cs 0 w cur hh (by omega)
  obtain ⟨s1, s2, s3, s4⟩ := setCells_same b cs 0 w
  refine ⟨?_, ⟨s1, s2, s3, by rw [s4]; exact Nat.le_refl _, fun k _ hk => setCells_far _ _ k (fun he => hk (by rw [he]))⟩, s4⟩
  rw [h3]
  congr 2
  rw [← Array.toArray_toList (xs := cur')]
  congr 1
  have : cur'.toList.take (0 + cs.length) = cs := by rw [h5]; simp
  rw [List.take_of_length_le (by simp; omega)] at this
  exact this
/-- A variable that is known whole is stored anew. -/
theorem wp_store_blk (ty : TypeId) (x y : Operand) (ho : op.op = .store ty x y) {b : Nat} {cur : Array Value} (hb : w.heap[b]? = some (.cells cur ty (0, 0))) (cs : List Value) (hx : a.eval x = .pointer (some ⟨b, 0, none⟩)) (hy : a.eval y = .agg cs.toArray)
    (hl : cur.size = cs.length) (hi : (P.info? ty).map (·.size) = some cs.length) (h1 : ∀ v ∈ cs, v.oneCell' = true)
    (h : ∀ w1 : World, w1.heap[b]? = some (.cells cs.toArray ty (0, 0)) → w.grownBy w1 (some b) → w1.heap.size = w.heap.size → K (a.put op.dst undef) w1) : op.wp P a w K Q := by
  refine wp_store_mid ty x y ho b 0 cs.toArray hx hy ?_ (by simpa using hi) (all_oneCell_toArray h1) ?_
  · intro j hj
    have hj2 : j < cs.length := by simpa using hj
    refine ⟨?_, blk_frozen hb _⟩
    rw [blk_cell hb]
    simp; omega
  · obtain ⟨h2, h3, h4⟩ := setCells_blk w hb hl
    exact h _ h2 h3 h4
theorem wpList_store_blk (hgd : op.guard = none) (hd : op.dst = none) (ty : TypeId) (x y : Operand) (ho : op.op = .store ty x y) {b : Nat} {cur : Array Value} (hb : w.heap[b]? = some (.cells cur ty (0, 0))) (cs : List Value) (hx : a.eval x = .pointer (some ⟨b, 0, none⟩)) (hy : a.eval y = .agg cs.toArray)
    (hl : cur.size = cs.length) (hi : (P.info? ty).map (·.size) = some cs.length) (h1 : ∀ v ∈ cs, v.oneCell' = true)
    (h : ∀ w1 : World, w1.heap[b]? = some (.cells cs.toArray ty (0, 0)) → w.grownBy w1 (some b) → w1.heap.size = w.heap.size → wpList P ops Q rest a w1) : wpList P ops Q (op :: rest) a w :=
  wpList_plain hgd fun _ hK => wp_store_blk ty x y ho hb cs hx hy hl hi h1 (fun w1 h2 h3 h4 => hK _ _ (by rw [hd]; exact h w1 h2 h3 h4))
end
theorem info33z : ((Tryz.prog.info? 33).bind (·.zero)).map (·.cells.size) = some 65 := by kernel_rfl
theorem info33b : (Tryz.prog.info? 33).map (fun i => (i.size, i.bytes)) = some (65, 72) := by kernel_rfl
theorem info33full : ∃ z : Value, (Tryz.prog.info? 33).map (fun i => (i.zero, i.size, i.bytes)) = some (some z, 65, 72) ∧ z.cells.size = 65 := by
  have h1 := info33z
  have h2 := info33b
  cases h : Tryz.prog.info? 33 with
  | none => rw [h] at h2; cases h2
  | some i =>
    rw [h] at h1 h2
    simp only [Option.bind_some] at h1
    cases hz : i.zero with
    | none => rw [hz] at h1; cases h1
    | some z =>
      rw [hz] at h1
      simp only [Option.map_some, Option.some.injEq, Prod.mk.injEq] at h1 h2 ⊢
      exact ⟨z, ⟨hz, h2.1, h2.2⟩, h1⟩
end Go.Proofs.YtdekmeanlcpenaaGreatDoor.Mid

namespace Go.Proofs.YtdekmeanlcpenaaGreatDoor.Mid
open Go.RowKit Go.Proofs.YtdekmeanlcpenaaGreatDoorW.PrintWords

/-- A world of which S holds. -/
structure CW (S : World → Prop) where
  w : World
  h : S w
section
variable {P : Program} {S : World → Prop}
/-- A region that draws its order, whose operations only read and whose calls leave S: one walk, in the order of the text. -/
theorem wp_region_S (S : World → Prop) {id : Nat} {Q : Exit → Act → World → Prop} {a : Act} {w : World} {l : List Oper} (hm : P.follows .mixedOrders = true) (hB : Region.lexB .any l.toArray = true) (h0 : S w.drew)
    (h : wpQuiet P l.toArray (fun w' => ∃ x : CW S, w' = x.w) (fun a' => ∀ w', (∃ x : CW S, w' = x.w) → Q .normal a' w') l a) : (Code.region id l.toArray true).wp P Q a w :=
  wp_region_quiet (C := fun w' => ∃ x : CW S, w' = x.w) hm hB ⟨⟨w.drew, h0⟩, rfl⟩ (by simpa using h)
theorem calls_S {f : FuncId} {args : Array Value} {v : Value} {x : CW S} (h : Calls P f args x.w fun e w' => e = .returned v ∧ S w') : Calls P f args x.w fun e w'' => e = .returned v ∧ ∃ y : CW S, w'' = y.w :=
  h.mono fun _ w' ⟨he, hs⟩ => ⟨he, ⟨w', hs⟩, rfl⟩
/-- .. of a callee that makes new memory alone. -/
theorem calls_below {f : FuncId} {args : Array Value} {v : Value} {x : CW S} (hS : ∀ w1 w2 : World, S w1 → Below w1.heap.size w1 w2 → S w2) (h : Calls P f args x.w fun e w' => e = .returned v ∧ Below x.w.heap.size x.w w') :
    Calls P f args x.w fun e w'' => e = .returned v ∧ ∃ y : CW S, w'' = y.w :=
  calls_S (h.mono fun _ _ ⟨he, hb⟩ => ⟨he, hS _ _ x.h hb⟩)
end
/-- Whatever came behind W. -/
def Since (W : World) (w' : World) : Prop := Below W.heap.size W w'
theorem since_step {W w1 w2 : World} (h1 : Since W w1) (h2 : Below w1.heap.size w1 w2) : Since W w2 := below_of h1 h2 (Nat.le_refl _)
theorem since_drew (W : World) : Since W W.drew := (Below.refl _ _).drew
instance (W : World) : Nonempty (CW (Since W)) := ⟨⟨W.drew, since_drew W⟩⟩
theorem calls_since {P : Program} {W : World} {f : FuncId} {args : Array Value} {v : Value} {x : CW (Since W)} (h : Calls P f args x.w fun e w' => e = .returned v ∧ Below x.w.heap.size x.w w') :
    Calls P f args x.w fun e w'' => e = .returned v ∧ ∃ y : CW (Since W), w'' = y.w := calls_below (fun _ _ => since_step) h
/-- The answer tells whether p holds. -/
structure RetB (e : Ending) (p : Prop) : Prop where mk ::
  out : ∃ q : Bool, e = .returned (.bool q) ∧ (q = true ↔ p)
theorem RetB.yes {p : Prop} {e : Ending} (he : e = .returned (.bool true)) (h : p) : RetB e p := ⟨true, he, fun _ => h, fun _ => rfl⟩
theorem RetB.no {p : Prop} {e : Ending} (he : e = .returned (.bool false)) (h : ¬ p) : RetB e p := ⟨false, he, (fun h => by cases h), fun hp => absurd hp h⟩
end Go.Proofs.YtdekmeanlcpenaaGreatDoor.Mid

namespace Go.Proofs.YtdekmeanlcpenaaGreatDoor.Mid
open Go.RowKit Go.Proofs.YtdekmeanlcpenaaGreatDoorW.PrintWords

theorem fits_yes (w : World) (r : Res) (hr : ResOk r) (h : 0 ≤ r.code ∧ r.code ≤ 255) : Calls Tryz.prog 73 #[resv r] w fun e w' => e = .returned (.bool true) ∧ Below w.heap.size w w' :=
  (fits_any w r hr).mono fun e w' ⟨he, hb⟩ => ⟨by rw [he, decide_eq_true h.1, decide_eq_true h.2]; rfl, hb⟩
theorem fits_no (w : World) (r : Res) (hr : ResOk r) (h : ¬ (0 ≤ r.code ∧ r.code ≤ 255)) : Calls Tryz.prog 73 #[resv r] w fun e w' => e = .returned (.bool false) ∧ Below w.heap.size w w' :=
  (fits_any w r hr).mono fun e w' ⟨he, hb⟩ => ⟨by
    rw [he]
    by_cases h1 : 0 ≤ r.code
    · have h2 : ¬ r.code ≤ 255 := fun h2 => h ⟨h1, h2⟩
      rw [decide_eq_true h1, decide_eq_false h2]; rfl
    · rw [decide_eq_false h1]; rfl, hb⟩
theorem below_yes (w : World) (x y : List Int) (lx : IdOk x) (ly : IdOk y) (h : cmp x y < 0) :
    Calls Tryz.prog 74 #[idv x, idv y] w fun e w' => e = .returned (.bool true) ∧ Below w.heap.size w w' :=
  (below_true w x y lx ly).mono fun e w' ⟨he, hb⟩ => ⟨by rw [he, decide_eq_true h], hb⟩
theorem below_no (w : World) (x y : List Int) (lx : IdOk x) (ly : IdOk y) (h : ¬ cmp x y < 0) :
    Calls Tryz.prog 74 #[idv x, idv y] w fun e w' => e = .returned (.bool false) ∧ Below w.heap.size w w' :=
  (below_true w x y lx ly).mono fun e w' ⟨he, hb⟩ => ⟨by rw [he, decide_eq_false h], hb⟩

/-- The first i results are as a table's. -/
structure Upto (rs : List Res) (i : Nat) : Prop where
  code : ∀ (j : Nat) (r : Res), j < i → rs[j]? = some r → 0 ≤ r.code ∧ r.code ≤ 255
  rise : ∀ (j : Nat) (r s : Res), j + 1 < i → rs[j]? = some r → rs[j + 1]? = some s → cmp r.act s.act < 0
theorem upto_none (rs : List Res) : Upto rs 0 := ⟨fun j r h => by omega, fun j r s h => by omega⟩
theorem upto_one {rs : List Res} {r : Res} (hr : rs[0]? = some r) (h : 0 ≤ r.code ∧ r.code ≤ 255) : Upto rs 1 :=
  ⟨fun j s hj hs => by
    have : j = 0 := by omega
    subst this
    rw [hr] at hs
    cases hs
    exact h, fun j r s h => by omega⟩
theorem upto_step {rs : List Res} {i : Nat} {q r : Res} (U : Upto rs (i + 1)) (hq : rs[i]? = some q) (hr : rs[i + 1]? = some r) (h : 0 ≤ r.code ∧ r.code ≤ 255) (hc : cmp q.act r.act < 0) : Upto rs (i + 2) := by
  refine ⟨fun j s hj hs => ?_, fun j a b hj ha hb => ?_⟩
  · by_cases hji : j = i + 1
    · subst hji
      rw [hr] at hs
      cases hs
      exact h
    · exact U.code j s (by omega) hs
  · by_cases hji : j = i
    · subst hji
      rw [hq] at ha
      rw [hr] at hb
      cases ha
      cases hb
      exact hc
    · exact U.rise j a b (by omega) ha hb
theorem upto_all {rs : List Res} {i : Nat} (U : Upto rs i) (hi : rs.length ≤ i) (hm : rs.length ≤ 32) : Table rs :=
  ⟨hm, fun r hr => by
    obtain ⟨j, hj⟩ := List.mem_iff_getElem?.1 hr
    exact U.code j r (by have := (List.getElem?_eq_some_iff.1 hj).1; omega) hj, fun j r s hr hs => U.rise j r s (by have := (List.getElem?_eq_some_iff.1 hs).1; omega) hr hs⟩

attribute [local go_sem ↓ high] load33_eq load29_eq
attribute [local simp] rowOf_drew rowOf_drewN
attribute [local go_sem high] load33_row load29_row rowOf_drew rowOf_drewN
set_option maxHeartbeats 1000000
set_option maxRecDepth 100000
theorem table_valid (A : Option Addr) (c : Nat) (rs : List Res) (w : World) (hC : resK.C w A rs.length rs) (hc : rs.length ≤ c) :
    Calls Tryz.prog 31 #[.slice A rs.length c] w fun e w' => RetB e (Table rs) ∧ Below w.heap.size w w' := by
  have HC := Aside0.mk hC
  have Hc := Aside0.mk hc
  clear hC hc
  by_cases hm : rs.length ≤ 32
  · have hm1 : (rs.length : Int) ≤ 32 := by omega
    go_enter Tryz.func31, Tryz.ntmps31
    go_wp2
    go_loopg [10] rs.length (fun k v10 w' => ∃ i : Nat, v10 = .int .i64 i ∧ i + k = rs.length ∧ Aside0 (Upto rs i) ∧ Aside0 (Below w.heap.size w w'))
    case atStart => exact ⟨0, rfl, by omega, ⟨upto_none rs⟩, ⟨Below.refl _ _⟩⟩
    case round =>
      obtain ⟨i, rfl, hik, HU, HB⟩ := hrel
      cases gk with
      | zero =>
        have hd : decide (i < rs.length) = false := by simp; omega
        have hi : Aside0 (i = rs.length) := ⟨by omega⟩
        clear hik
        go_wp2
        go_ret
        exact ⟨.yes rfl (upto_all HU.out (by rw [hi.out]; exact Nat.le_refl _) hm), HB.out⟩
      | succ k =>
        have hi : i < rs.length := by omega
        have hi1 : (i : Int) < (rs.length : Int) := by omega
        obtain ⟨ad, r, rfl, hr, ho, hat⟩ := res_at (Kd.C_below HC.out HB.out) i hi
        have hld := hat.res ho
        go_wp2_with (first | (refine store33_new rfl rfl _ _ rfl r ho rfl rfl ?_) | go_in)
        obtain ⟨W, hW⟩ : ∃ W, W = wr.alloc (.cells (resC r).toArray 33) := ⟨_, rfl⟩
        have hn : At W ⟨wr.heap.size, 0, none⟩ (resC r) := hW ▸ At.new wr (resC r) 33
        have hBW : Below wr.heap.size wr W := hW ▸ below_alloc (Below.refl _ _) _
        rw [← hW]
        have g1 : ∀ x : CW (Since W), rowOf x.w ⟨wr.heap.size, 0, none⟩ 65 = some (resC r) := fun x => (hn.below x.h).res ho
        have g2 : ∀ x : CW (Since W), rowOf x.w ⟨wr.heap.size, 0, none⟩ 32 = some (u8s r.act) := fun x => (res_act (hn.below x.h)).id ho.act
        have HN := Aside0.mk hn
        have HBW := Aside0.mk (below_of HB.out hBW (Nat.le_refl _))
        have HR := Aside0.mk hr
        have Ho := Aside0.mk ho
        have HW := Aside0.mk hW
        clear hn hBW hat hld ho hr hW
        obtain rfl | ⟨m, rfl⟩ : i = 0 ∨ ∃ m, i = m + 1 := by cases i; exact .inl rfl; exact .inr ⟨_, rfl⟩
        · by_cases hf : 0 ≤ r.code ∧ r.code ≤ 255
          · have Hf := Aside0.mk hf
            clear hf
            refine wp_region_S (Since W) (by kernel_rfl) (by kernel_rfl) (since_drew W) ?_
            repeat (go_big_quiet_step (first | (go_at_call 73; refine calls_since (fits_yes _ r Ho.out Hf.out))))
            refine wpQuiet_nil ?_
            rintro _ ⟨⟨w5, hb5⟩, rfl⟩
            go_wp2
            go_roundg k
            case measure => omega
            case rel => exact ⟨1, by go_num, by omega, ⟨upto_one HR.out Hf.out⟩, ⟨below_of HBW.out hb5 (Nat.le_refl _)⟩⟩
          · have Hf := Aside0.mk hf
            clear hf
            refine wp_region_S (Since W) (by kernel_rfl) (by kernel_rfl) (since_drew W) ?_
            repeat (go_big_quiet_step (first | (go_at_call 73; refine calls_since (fits_no _ r Ho.out Hf.out))))
            refine wpQuiet_nil ?_
            rintro _ ⟨⟨w5, hb5⟩, rfl⟩
            go_wp2
            go_ret
            exact ⟨.no rfl (fun T => absurd (T.code r (List.mem_of_getElem? HR.out)) Hf.out), below_of HBW.out hb5 (Nat.le_refl _)⟩
        · have hm0 : m < rs.length := by omega
          have hm2 : (m : Int) < (rs.length : Int) := by omega
          obtain ⟨ad', q, e1, hq, hqo, hqa⟩ := res_at (Kd.C_below HC.out HBW.out) m hm0
          cases e1
          have g3 : ∀ x : CW (Since W), rowOf x.w (ad.add (m * 65)) 32 = some (u8s q.act) := fun x => (res_act (hqa.below x.h)).id hqo.act
          have HQ := Aside0.mk hq
          have Hqo := Aside0.mk hqo
          clear hq hqo hqa
          by_cases hf : 0 ≤ r.code ∧ r.code ≤ 255
          · have Hf := Aside0.mk hf
            clear hf
            by_cases hc : cmp q.act r.act < 0
            · have Hcm := Aside0.mk hc
              clear hc
              refine wp_region_S (Since W) (by kernel_rfl) (by kernel_rfl) (since_drew W) ?_
              repeat (go_big_quiet_step (first | (go_at_call 73; refine calls_since (fits_yes _ r Ho.out Hf.out)) | (go_at_call 74; refine calls_since (below_yes _ q.act r.act Hqo.out.act Ho.out.act Hcm.out))))
              refine wpQuiet_nil ?_
              rintro _ ⟨⟨w5, hb5⟩, rfl⟩
              go_wp2
              go_roundg k
              case measure => omega
              case rel => exact ⟨m + 2, by go_num, by omega, ⟨upto_step HU.out HQ.out HR.out Hf.out Hcm.out⟩, ⟨below_of HBW.out hb5 (Nat.le_refl _)⟩⟩
            · have Hcm := Aside0.mk hc
              clear hc
              refine wp_region_S (Since W) (by kernel_rfl) (by kernel_rfl) (since_drew W) ?_
              repeat (go_big_quiet_step (first | (go_at_call 73; refine calls_since (fits_yes _ r Ho.out Hf.out)) | (go_at_call 74; refine calls_since (below_no _ q.act r.act Hqo.out.act Ho.out.act Hcm.out))))
              refine wpQuiet_nil ?_
              rintro _ ⟨⟨w5, hb5⟩, rfl⟩
              go_wp2
              go_ret
              exact ⟨.no rfl (fun T => (by have h6 := T.rise m q r HQ.out HR.out; have h7 := Hcm.out; omega)), below_of HBW.out hb5 (Nat.le_refl _)⟩
          · have Hf := Aside0.mk hf
            clear hf
            refine wp_region_S (Since W) (by kernel_rfl) (by kernel_rfl) (since_drew W) ?_
            repeat (go_big_quiet_step (first | (go_at_call 73; refine calls_since (fits_no _ r Ho.out Hf.out))))
            refine wpQuiet_nil ?_
            rintro _ ⟨⟨w5, hb5⟩, rfl⟩
            go_wp2
            go_ret
            exact ⟨.no rfl (fun T => absurd (T.code r (List.mem_of_getElem? HR.out)) Hf.out), below_of HBW.out hb5 (Nat.le_refl _)⟩
  · have hm1 : (32 : Int) < rs.length := by omega
    go_enter Tryz.func31, Tryz.ntmps31
    go_wp2
    go_ret
    exact ⟨.no rfl (fun T => absurd T.most hm), Below.refl _ _⟩
end Go.Proofs.YtdekmeanlcpenaaGreatDoor.Mid

namespace Go.Proofs.YtdekmeanlcpenaaGreatDoor.Pick
open Go.RowKit
open Go.Maps (Keyed)
open Go.ChangeMaps (setBlock map_eraseIdx)

theorem heap_setBlock_same {w : World} {b : Nat} {o : Obj} (hb : w.heap[b]? = some o) (o' : Obj) : (setBlock w b o').heap[b]? = some o' := by
  have hlt : b < w.heap.size := (Array.getElem?_eq_some_iff.1 hb).1
  show (w.heap.setIfInBounds b o')[b]? = some o'
  rw [Array.getElem?_setIfInBounds_self_of_lt hlt]
theorem heap_setBlock_other {w : World} {b : Nat} {o : Obj} (_hb : w.heap[b]? = some o) (o' : Obj) {i : Nat} (h : i ≠ b) : (setBlock w b o').heap[i]? = w.heap[i]? := by
  show (w.heap.setIfInBounds b o')[i]? = _
  rw [Array.getElem?_setIfInBounds_ne (by omega)]
theorem nodup_at {α : Type} {l : List α} (h : l.Nodup) {i j : Nat} {a : α} (hi : l[i]? = some a) (hj : l[j]? = some a) : i = j := by
  have li := (List.getElem?_eq_some_iff.1 hi).1
  have lj := (List.getElem?_eq_some_iff.1 hj).1
  rcases Nat.lt_trichotomy i j with e | e | e
  · have := List.pairwise_iff_getElem.1 h i j li lj e
    rw [List.getElem?_eq_getElem li] at hi
    rw [List.getElem?_eq_getElem lj] at hj
    exact absurd ((Option.some.inj hi).trans (Option.some.inj hj).symm) this
  · exact e
  · have := List.pairwise_iff_getElem.1 h j i lj li e
    rw [List.getElem?_eq_getElem li] at hi
    rw [List.getElem?_eq_getElem lj] at hj
    exact absurd ((Option.some.inj hj).trans (Option.some.inj hi).symm) this

/-- The entries of a set: its keys in the order in which they came, each element true. -/
structure SE (P : Program) (k : TypeId) (es : Array MapEntry) (clock : Nat) (ks : List Value) : Prop where
  keys : es.toList.map (·.key) = ks
  vals : ∀ x ∈ es.toList, x.val = .bool true
  lit : ∀ x ∈ es.toList, ∃ l, keyOf P k x.key = some l
  nd : ks.Nodup
  born : ∀ x ∈ es.toList, x.born < clock
  bnd : (es.toList.map (·.born)).Nodup

/-- Block b is a set of these keys. -/
def SetAt (P : Program) (k : TypeId) (w : World) (b : Nat) (ks : List Value) : Prop := ∃ es clock, w.heap[b]? = some (.map es clock) ∧ SE P k es clock ks

section
variable {P : Program} {k t e : TypeId} {w w1 : World} {b : Nat} {ks : List Value}

theorem SetAt.lt (h : SetAt P k w b ks) : b < w.heap.size := by
  obtain ⟨es, clock, hb, _⟩ := h
  exact (Array.getElem?_eq_some_iff.1 hb).1
theorem SetAt.made (P : Program) (k : TypeId) (w : World) : SetAt P k (w.alloc (.map #[] 0)) w.heap.size [] :=
  ⟨#[], 0, heap_alloc_new w _, ⟨rfl, by simp, by simp, by simp, by simp, by simp⟩⟩
theorem SetAt.move (h : SetAt P k w b ks) (hm : w1.heap[b]? = w.heap[b]?) : SetAt P k w1 b ks := by
  obtain ⟨es, clock, hb, S⟩ := h
  exact ⟨es, clock, hm.trans hb, S⟩
theorem SetAt.below (h : SetAt P k w b ks) (hb : Below w.heap.size w w1) : SetAt P k w1 b ks := h.move (hb.block b h.lt)
theorem SetAt.grown (h : SetAt P k w b ks) {row : Option Nat} (hg : w.grownBy w1 row) (hne : some b ≠ row) : SetAt P k w1 b ks := h.move (hg.block b h.lt hne)
theorem SetAt.setCell (h : SetAt P k w b ks) {a : Addr} (ha : b ≠ a.block) (u : Value) : SetAt P k (w.setCell a u) b ks := h.move (Below.heap_setCell w a u b ha)

theorem SE.mem {es : Array MapEntry} {clock : Nat} (S : SE P k es clock ks) {x : MapEntry} (hx : x ∈ es.toList) : x.key ∈ ks := by
  rw [← S.keys]; exact List.mem_map_of_mem hx

theorem SE.find {es : Array MapEntry} {clock : Nat} (S : SE P k es clock ks) (K : Keyed P k) (u : World) {key : Value} {kl : Lit} (hkey : keyOf P k key = some kl) :
    ((Instr.findKey k key es.toList).run P u = .ok none u ∧ key ∉ ks) ∨
    ∃ j x, (Instr.findKey k key es.toList).run P u = .ok (some (j, .bool true)) u ∧ es.toList[j]? = some x ∧ x.key = key ∧ key ∈ ks := by
  rcases K.find u hkey es.toList S.lit with ⟨h1, h2⟩ | ⟨j, x, h1, h2, h3⟩
  · refine .inl ⟨h1, fun hm => ?_⟩
    rw [← S.keys] at hm
    obtain ⟨x, hx, hk⟩ := List.mem_map.1 hm
    exact h2 x hx hk
  · have hx := List.mem_of_getElem? h2
    refine .inr ⟨j, x, ?_, h2, h3, by rw [← h3]; exact S.mem hx⟩
    rw [h1, S.vals x hx]

/-- m[k]. -/
theorem SetAt.look (h : SetAt P k w b ks) (K : Keyed P k) (ht : P.underlying t = some (.map k e)) (hz : (zeroValue e).run P w = .ok (.bool false) w) {key : Value} {kl : Lit} (hkey : keyOf P k key = some kl) (q : Bool) (hq : q = true ↔ key ∈ ks) :
    (Instr.lookup t (.map (some b)) key false).run P w = .ok (.bool q) w := by
  obtain ⟨es, clock, hb, S⟩ := h
  rcases S.find K w hkey with ⟨h1, h2⟩ | ⟨j, x, h1, h2, h3, h4⟩
  · have : q = false := by cases q <;> simp_all
    subst this
    simp [Instr.lookup, run_underlying ht, MapKept.run_getObj_map hb, K.check w _ hkey, h1, hz, Result.andThen]
  · have : q = true := hq.2 h4
    subst this
    simp [Instr.lookup, run_underlying ht, MapKept.run_getObj_map hb, K.check w _ hkey, h1, Result.andThen]

theorem setBlock_grown {o o' : Obj} (hb : w.heap[b]? = some o) : w.grownBy (setBlock w b o') (some b) ∧ (setBlock w b o').heap.size = w.heap.size :=
  ⟨⟨rfl, rfl, rfl, by simp [setBlock], fun i _ hi => heap_setBlock_other hb _ (fun e => hi (by rw [e]))⟩, by simp [setBlock]⟩

/-- m[k] = true. -/
theorem SetAt.put (h : SetAt P k w b ks) (K : Keyed P k) (ht : P.underlying t = some (.map k e)) {key : Value} {kl : Lit} (hkey : keyOf P k key = some kl) :
    ∃ w1 ks1, (Instr.mapUpdate t (.map (some b)) key (.bool true)).run P w = .ok () w1 ∧ SetAt P k w1 b ks1 ∧ (∀ v, v ∈ ks1 ↔ v ∈ ks ∨ v = key) ∧ w.grownBy w1 (some b) ∧ w1.heap.size = w.heap.size := by
  obtain ⟨es, clock, hb, S⟩ := h
  rcases S.find K w hkey with ⟨h1, h2⟩ | ⟨j, x, h1, h2, h3, h4⟩
  · obtain ⟨g1, g2⟩ := setBlock_grown (o' := .map (es.push ⟨key, .bool true, clock⟩) (clock + 1)) hb
    refine ⟨_, ks ++ [key], ?_, ⟨_, _, heap_setBlock_same hb _, ?_⟩, by simp, g1, g2⟩
    · simp [Instr.mapUpdate, run_underlying ht, MapKept.run_getObj_map hb, K.check w false hkey, h1, MapKept.run_setObj_map _ hb, Result.andThen, setBlock]
    · refine ⟨by simp [S.keys], ?_, ?_, ?_, ?_, ?_⟩
      · intro x hx
        simp only [Array.toList_push, List.mem_append, List.mem_singleton] at hx
        rcases hx with hx | rfl
        · exact S.vals x hx
        · rfl
      · intro x hx
        simp only [Array.toList_push, List.mem_append, List.mem_singleton] at hx
        rcases hx with hx | rfl
        · exact S.lit x hx
        · exact ⟨kl, hkey⟩
      · exact List.nodup_append.2 ⟨S.nd, by simp, fun a ha c hc e1 => h2 (by simp at hc; rw [← hc, ← e1]; exact ha)⟩
      · intro x hx
        simp only [Array.toList_push, List.mem_append, List.mem_singleton] at hx
        rcases hx with hx | rfl
        · have := S.born x hx; omega
        · show clock < clock + 1; omega
      · simp only [Array.toList_push, List.map_append, List.map_cons, List.map_nil]
        refine List.nodup_append.2 ⟨S.bnd, by simp, fun a ha c hc e1 => ?_⟩
        obtain ⟨x, hx, hxa⟩ := List.mem_map.1 ha
        have := S.born x hx
        simp at hc
        omega
  · obtain ⟨g1, g2⟩ := setBlock_grown (o' := .map (es.modify j fun e => { e with key := key, val := .bool true }) clock) hb
    have hj : es[j]? = some x := by simpa using h2
    refine ⟨_, ks, ?_, ⟨_, _, heap_setBlock_same hb _, ?_⟩, fun v => ⟨.inl, fun hv => hv.elim id (fun e => e ▸ h4)⟩, g1, g2⟩
    · simp [Instr.mapUpdate, run_underlying ht, MapKept.run_getObj_map hb, K.check w false hkey, h1, hj, h3, K.stays w hkey, MapKept.run_setObj_map _ hb, Result.andThen, setBlock]
    · have heq : es.modify j (fun e => { e with key := key, val := .bool true }) = es := by
        apply Array.ext_getElem?
        intro i
        rw [Array.getElem?_modify]
        by_cases hij : j = i
        · subst hij
          rw [if_pos rfl, hj]
          have hv := S.vals x (List.mem_of_getElem? h2)
          cases x
          simp_all
        · rw [if_neg hij]
      rw [heq]
      exact S

/-- delete(m, k). -/
theorem SetAt.drop (h : SetAt P k w b ks) (K : Keyed P k) (ht : P.underlying t = some (.map k e)) (k' ty : TypeId) {key : Value} {kl : Lit} (hkey : keyOf P k key = some kl) :
    ∃ w1 ks1, (Builtin.delete_ #[t, k'] ty #[.map (some b), key]).run P w = .ok (.tuple #[]) w1 ∧ SetAt P k w1 b ks1 ∧ (∀ v, v ∈ ks1 ↔ v ∈ ks ∧ v ≠ key) ∧ w.grownBy w1 (some b) ∧ w1.heap.size = w.heap.size := by
  obtain ⟨es, clock, hb, S⟩ := h
  rcases S.find K w hkey with ⟨h1, h2⟩ | ⟨j, x, h1, h2, h3, h4⟩
  · obtain ⟨g1, g2⟩ := setBlock_grown (o' := .map es clock) hb
    refine ⟨_, ks, ?_, ⟨_, _, heap_setBlock_same hb _, S⟩, fun v => ⟨fun hv => ⟨hv, fun e => h2 (e ▸ hv)⟩, And.left⟩, g1, g2⟩
    simp [Builtin.delete_, run_underlying ht, MapKept.run_getObj_map hb, K.check w _ hkey, h1, MapKept.run_setObj_map _ hb, Result.andThen, setBlock]
  · obtain ⟨g1, g2⟩ := setBlock_grown (o' := .map (es.eraseIdxIfInBounds j) clock) hb
    have hj : j < es.toList.length := (List.getElem?_eq_some_iff.1 h2).1
    have hl : (es.eraseIdxIfInBounds j).toList = es.toList.eraseIdx j := by
      have : j < es.size := by simpa using hj
      simp [Array.eraseIdxIfInBounds, this]
    have sub : ∀ {z}, z ∈ (es.eraseIdxIfInBounds j).toList → z ∈ es.toList := fun hz => by rw [hl] at hz; exact List.mem_of_mem_eraseIdx hz
    refine ⟨_, ks.eraseIdx j, ?_, ⟨_, _, heap_setBlock_same hb _, ⟨?_, fun z hz => S.vals z (sub hz), fun z hz => S.lit z (sub hz), ?_, fun z hz => S.born z (sub hz), ?_⟩⟩, ?_, g1, g2⟩
    · simp [Builtin.delete_, run_underlying ht, MapKept.run_getObj_map hb, K.check w _ hkey, h1, MapKept.run_setObj_map _ hb, Result.andThen, setBlock]
    · rw [hl, map_eraseIdx, S.keys]
    · exact S.nd.sublist (List.eraseIdx_sublist ..)
    · rw [hl, map_eraseIdx]
      exact S.bnd.sublist (List.eraseIdx_sublist ..)
    · intro v
      have hkj : ks[j]? = some key := by rw [← S.keys, List.getElem?_map, h2]; simp [h3]
      constructor
      · intro hv
        refine ⟨List.mem_of_mem_eraseIdx hv, ?_⟩
        rintro rfl
        obtain ⟨i, hi⟩ := List.mem_iff_getElem?.1 hv
        rw [List.getElem?_eraseIdx] at hi
        have inj : ∀ i i' : Nat, ks[i]? = some v → ks[i']? = some v → i = i' := fun i i' a a' => nodup_at S.nd a a'
        split at hi
        · have := inj _ _ hi hkj; omega
        · have := inj _ _ hi hkj; omega
      · rintro ⟨hv, hne⟩
        obtain ⟨i, hi⟩ := List.mem_iff_getElem?.1 hv
        have hij : i ≠ j := by
          rintro rfl
          rw [hkj] at hi
          exact hne (Option.some.inj hi).symm
        by_cases hlt : i < j
        · exact List.mem_of_getElem? (i := i) (by rw [List.getElem?_eraseIdx, if_pos hlt]; exact hi)
        · refine List.mem_of_getElem? (i := i - 1) ?_
          rw [List.getElem?_eraseIdx, if_neg (by omega), Nat.sub_add_cancel (by omega)]
          exact hi

/-- The set b, and the loop over it in block r, to which these keys are left. -/
def LoopAt (P : Program) (k : TypeId) (w : World) (b r : Nat) (ks left : List Value) : Prop :=
  ∃ es clock since seen c0, w.heap[b]? = some (.map es clock) ∧ SE P k es clock ks ∧ w.heap[r]? = some (.mapIter (some b) since seen c0) ∧ (∀ x ∈ es.toList, x.born < since) ∧ since ≤ c0 ∧ since ≤ clock ∧ left = (leftOf es seen).toList.map (·.key)

theorem LoopAt.set {r : Nat} {left : List Value} (h : LoopAt P k w b r ks left) : SetAt P k w b ks := by
  obtain ⟨es, clock, since, seen, c0, hb, S, _⟩ := h
  exact ⟨es, clock, hb, S⟩
theorem LoopAt.move {r : Nat} {left : List Value} (h : LoopAt P k w b r ks left) (hb : w1.heap[b]? = w.heap[b]?) (hr : w1.heap[r]? = w.heap[r]?) : LoopAt P k w1 b r ks left := by
  obtain ⟨es, clock, since, seen, c0, h1, S, h2, r⟩ := h
  exact ⟨es, clock, since, seen, c0, hb.trans h1, S, hr.trans h2, r⟩
theorem LoopAt.lt {r : Nat} {left : List Value} (h : LoopAt P k w b r ks left) : r < w.heap.size := by
  obtain ⟨es, clock, since, seen, c0, _, _, h2, _⟩ := h
  exact (Array.getElem?_eq_some_iff.1 h2).1
theorem LoopAt.below {r : Nat} {left : List Value} (h : LoopAt P k w b r ks left) (hb : Below w.heap.size w w1) : LoopAt P k w1 b r ks left := h.move (hb.block b h.set.lt) (hb.block r h.lt)
/-- left are keys of the set. -/
theorem LoopAt.sub {r : Nat} {left : List Value} (h : LoopAt P k w b r ks left) : ∀ v ∈ left, v ∈ ks := by
  obtain ⟨es, clock, since, seen, c0, _, S, _, _, _, _, rfl⟩ := h
  intro v hv
  obtain ⟨x, hx, rfl⟩ := List.mem_map.1 hv
  exact S.mem (mem_left hx).1

/-- range m. -/
theorem SetAt.range (h : SetAt P k w b ks) (ht : P.underlying t = some (.map k e)) :
    ∃ w1, (Instr.range t (.map (some b))).run P w = .ok (.pointer (some ⟨w.heap.size, 0, none⟩)) w1 ∧ LoopAt P k w1 b w.heap.size ks ks ∧ w.grownBy w1 none ∧ w1.heap.size = w.heap.size + 1 := by
  have hlt := h.lt
  obtain ⟨es, clock, hb, S⟩ := h
  refine ⟨_, run_range_map w t k e b es clock ht hb, ⟨es, clock, clock, #[], clock, ((MapKept.heap_alloc w _).2 b hlt).trans hb, S, (MapKept.heap_alloc w _).1, S.born, Nat.le_refl _, Nat.le_refl _, ?_⟩, World.grownBy_alloc w _ none, by simp⟩
  have hf : (leftOf es #[]).toList = es.toList := by simp [leftOf]
  rw [hf]
  exact S.keys.symm

/-- next. -/
theorem LoopAt.next {r : Nat} {left : List Value} (h : LoopAt P k w b r ks left) (ty : TypeId) :
    (left = [] ∧ (Instr.next (.pointer (some ⟨r, 0, none⟩)) false ty).run P w = .ok (.tuple #[.bool false]) w) ∨
    ∃ key w1 left1, key ∈ left ∧ (Instr.next (.pointer (some ⟨r, 0, none⟩)) false ty).run P w = .ok (.tuple #[.bool true, key, .bool true]) w1 ∧ LoopAt P k w1 b r ks left1 ∧ (∀ v, v ∈ left1 ↔ v ∈ left ∧ v ≠ key) ∧ left1.length < left.length ∧ w.grownBy w1 (some r) ∧ w1.heap.size = w.heap.size ∧ (Instr.entry (.pointer (some ⟨r, 0, none⟩))).run P w1 = .ok (.tuple #[key, .bool true]) w1 := by
  have hrl := h.lt
  obtain ⟨es, clock, since, seen, c0, hb, S, hr, h3, h4, h7, rfl⟩ := h
  rcases run_next_at w ty r b since c0 seen es clock hr hb h3 h4 with ⟨h5, h6⟩ | ⟨x, hx, w2, hw2, h6⟩
  · refine .inl ⟨?_, h6⟩
    have : leftOf es seen = #[] := Array.eq_empty_of_size_eq_zero h5
    rw [this]; rfl
  · have hm := mem_left hx
    have hne : b ≠ r := by
      rintro rfl
      rw [hb] at hr; cases hr
    have hb2 : w2.heap[b]? = some (.map es clock) := by rcases hw2 with rfl | rfl <;> exact hb
    have hr2 : w2.heap[r]? = some (.mapIter (some b) since seen c0) := by rcases hw2 with rfl | rfl <;> exact hr
    have hg2 : w.grownBy w2 none ∧ w2.heap.size = w.heap.size := by
      rcases hw2 with rfl | rfl
      · exact ⟨⟨rfl, rfl, rfl, Nat.le_refl _, fun _ _ _ => rfl⟩, rfl⟩
      · exact ⟨⟨rfl, rfl, rfl, Nat.le_refl _, fun _ _ _ => rfl⟩, rfl⟩
    obtain ⟨g1, g2⟩ := setBlock_grown (o' := .mapIter (some b) since (seen.push x.born) clock) hr2
    refine .inr ⟨x.key, _, _, List.mem_map_of_mem hx, ?_, ⟨es, clock, since, seen.push x.born, clock, (heap_setBlock_other hr2 _ hne).trans hb2, S, heap_setBlock_same hr2 _, h3, h7, h7, rfl⟩, ?_, ?_, ?_, ?_, ?_⟩
    · rw [h6, S.vals x hm.1]
    · intro v
      have same : ∀ y ∈ es.toList, y.born = x.born ↔ y.key = x.key := by
        intro y hy
        obtain ⟨i, hi⟩ := List.mem_iff_getElem?.1 hy
        obtain ⟨j, hj⟩ := List.mem_iff_getElem?.1 hm.1
        have hkd : (es.toList.map (·.key)).Nodup := by rw [S.keys]; exact S.nd
        constructor
        · intro e1
          have h1 : (es.toList.map (·.born))[i]? = some y.born := by rw [List.getElem?_map, hi]; rfl
          have h2 : (es.toList.map (·.born))[j]? = some y.born := by rw [List.getElem?_map, hj, e1]; rfl
          have : i = j := nodup_at S.bnd h1 h2
          subst this
          rw [hi] at hj
          rw [Option.some.inj hj]
        · intro e1
          have h1 : (es.toList.map (·.key))[i]? = some y.key := by rw [List.getElem?_map, hi]; rfl
          have h2 : (es.toList.map (·.key))[j]? = some y.key := by rw [List.getElem?_map, hj, e1]; rfl
          have : i = j := nodup_at hkd h1 h2
          subst this
          rw [hi] at hj
          rw [Option.some.inj hj]
      have ml : ∀ (sn : Array Nat) (y : MapEntry), y ∈ (leftOf es sn).toList ↔ y ∈ es.toList ∧ sn.contains y.born = false := by
        intro sn y
        refine ⟨mem_left, fun hy => ?_⟩
        unfold leftOf
        rw [Array.mem_toList_iff, Array.mem_filter]
        exact ⟨Array.mem_toList_iff.1 hy.1, by rw [hy.2]; rfl⟩
      constructor
      · intro hv
        obtain ⟨y, hy, rfl⟩ := List.mem_map.1 hv
        obtain ⟨hy1, hy2⟩ := (ml _ _).1 hy
        rw [contains_push] at hy2
        simp only [Bool.or_eq_false_iff, beq_eq_false_iff_ne, ne_eq] at hy2
        exact ⟨List.mem_map_of_mem ((ml _ _).2 ⟨hy1, hy2.1⟩), fun e1 => hy2.2 ((same y hy1).2 e1)⟩
      · rintro ⟨hv, hne1⟩
        obtain ⟨y, hy, rfl⟩ := List.mem_map.1 hv
        obtain ⟨hy1, hy2⟩ := (ml _ _).1 hy
        refine List.mem_map_of_mem ((ml _ _).2 ⟨hy1, ?_⟩)
        rw [contains_push]
        simp only [Bool.or_eq_false_iff, beq_eq_false_iff_ne, ne_eq]
        exact ⟨hy2, fun e1 => hne1 ((same y hy1).1 e1)⟩
    · have := left_shrinks es seen x hx
      simpa using this
    · exact World.grownBy.andThen (row := some r) ⟨hg2.1.os, hg2.1.tape, hg2.1.output, hg2.1.size, fun i hi _ => hg2.1.block i hi (by simp)⟩ g1 (fun j hj => .inr hj)
    · rw [g2, hg2.2]
    · rw [run_entry_at (w := setBlock w2 r (.mapIter (some b) since (seen.push x.born) clock)) (r := r) (bm := b) (since := since) (seen := seen) (es := es) (clock := clock) (e := x) (heap_setBlock_same hr2 _) ((heap_setBlock_other hr2 _ hne).trans hb2) hm.1 S.bnd, S.vals x hm.1]
end
end Go.Proofs.YtdekmeanlcpenaaGreatDoor.Pick

namespace Go.Proofs.YtdekmeanlcpenaaGreatDoor.Pick
open Go.RowKit
open Go.Maps (Keyed)
section
variable {P : Program} {ops : Array Oper} {rest : List Oper} {o : Oper} {a : Act} {Q : Exit → Act → World → Prop} {w : World} {k t e : TypeId} {b : Nat} {ks : List Value}
theorem wpList_look (hg : o.guard = none) (m x : Operand) (hop : o.op = Op.lookup t m x false) (K : Keyed P k) (ht : P.underlying t = some (.map k e)) (hz : ∀ u : World, (zeroValue e).run P u = .ok (.bool false) u)
    (hm : a.eval m = .map (some b)) (hS : SetAt P k w b ks) (key : Value) (kl : Lit) (hx : a.eval x = key) (hkey : keyOf P k key = some kl) (q : Bool) (hq : q = true ↔ key ∈ ks)
    (h : wpList P ops Q rest (a.put o.dst (.bool q)) w) : wpList P ops Q (o :: rest) a w := by
  refine wpList_plain hg fun K' hK' => ?_
  have hrun := hS.look K ht (hz w) hkey q hq
  unfold Oper.wp
  simp [execOp, hop, hm, hx, hrun, Result.andThen]
  exact hK' _ _ h
theorem wpList_put (hg : o.guard = none) (m x v : Operand) (hop : o.op = Op.mapUpdate t m x v) (K : Keyed P k) (ht : P.underlying t = some (.map k e))
    (hm : a.eval m = .map (some b)) (hS : SetAt P k w b ks) (key : Value) (kl : Lit) (hx : a.eval x = key) (hv : a.eval v = .bool true) (hkey : keyOf P k key = some kl)
    (h : ∀ w1 ks1, SetAt P k w1 b ks1 → (∀ v, v ∈ ks1 ↔ v ∈ ks ∨ v = key) → w.grownBy w1 (some b) → w1.heap.size = w.heap.size → wpList P ops Q rest (a.put o.dst undef) w1) : wpList P ops Q (o :: rest) a w := by
  refine wpList_plain hg fun K' hK' => ?_
  obtain ⟨w1, ks1, hrun, h1, h2, h3, h4⟩ := hS.put K ht hkey
  unfold Oper.wp
  simp [execOp, hop, hm, hx, hv, hrun, Result.andThen]
  exact hK' _ _ (h w1 ks1 h1 h2 h3 h4)
theorem wpList_drop (hg : o.guard = none) (m x : Operand) (k' : TypeId) (hop : o.op = Op.call { callee := Callee.builtin Builtin.delete, args := #[m, x], argTypes := #[t, k'] }) (K : Keyed P k) (ht : P.underlying t = some (.map k e))
    (hm : a.eval m = .map (some b)) (hS : SetAt P k w b ks) (key : Value) (kl : Lit) (hx : a.eval x = key) (hkey : keyOf P k key = some kl)
    (h : ∀ w1 ks1, SetAt P k w1 b ks1 → (∀ v, v ∈ ks1 ↔ v ∈ ks ∧ v ≠ key) → w.grownBy w1 (some b) → w1.heap.size = w.heap.size → wpList P ops Q rest (a.put o.dst (.tuple #[])) w1) : wpList P ops Q (o :: rest) a w := by
  refine wpList_plain hg fun K' hK' => ?_
  obtain ⟨w1, ks1, hrun, h1, h2, h3, h4⟩ := hS.drop K ht k' o.type hkey
  unfold Oper.wp
  simp [execOp, hop, resolve, invoke, builtin, hm, hx, hrun, Result.andThen]
  exact hK' _ _ (h w1 ks1 h1 h2 h3 h4)
theorem wpList_range (hg : o.guard = none) (m : Operand) (hop : o.op = Op.range t m) (ht : P.underlying t = some (.map k e)) (hm : a.eval m = .map (some b)) (hS : SetAt P k w b ks)
    (h : ∀ w1, LoopAt P k w1 b w.heap.size ks ks → w.grownBy w1 none → w1.heap.size = w.heap.size + 1 → wpList P ops Q rest (a.put o.dst (.pointer (some ⟨w.heap.size, 0, none⟩))) w1) : wpList P ops Q (o :: rest) a w := by
  refine wpList_plain hg fun K' hK' => ?_
  obtain ⟨w1, hrun, h1, h2, h3⟩ := hS.range ht
  unfold Oper.wp
  simp [execOp, hop, hm, hrun, Result.andThen]
  exact hK' _ _ (h w1 h1 h2 h3)
theorem wpList_run (hg : o.guard = none) (v : Value) (w1 : World) (hrun : (execOp a.eval o).run P w = .ok (.value v) w1) (h : wpList P ops Q rest (a.put o.dst v) w1) : wpList P ops Q (o :: rest) a w := by
  refine wpList_plain hg fun K' hK' => ?_
  unfold Oper.wp
  rw [hrun]
  exact hK' _ _ h
theorem wpList_next (hg : o.guard = none) (it : Operand) (hop : o.op = Op.next it false) {r : Nat} {v : Value} {w1 : World} (hit : a.eval it = .pointer (some ⟨r, 0, none⟩)) (hrun : (Instr.next (.pointer (some ⟨r, 0, none⟩)) false o.type).run P w = .ok v w1)
    (h : wpList P ops Q rest (a.put o.dst v) w1) : wpList P ops Q (o :: rest) a w := wpList_run hg v w1 (by simp [execOp, hop, hit, hrun, Result.andThen]) h
theorem wpList_entry (hg : o.guard = none) (it : Operand) (hop : o.op = Op.entry it) {r : Nat} {v : Value} (hit : a.eval it = .pointer (some ⟨r, 0, none⟩)) (hrun : (Instr.entry (.pointer (some ⟨r, 0, none⟩))).run P w = .ok v w)
    (h : wpList P ops Q rest (a.put o.dst v) w) : wpList P ops Q (o :: rest) a w := wpList_run hg v w (by simp [execOp, hop, hit, hrun, Result.andThen]) h
end
end Go.Proofs.YtdekmeanlcpenaaGreatDoor.Pick
