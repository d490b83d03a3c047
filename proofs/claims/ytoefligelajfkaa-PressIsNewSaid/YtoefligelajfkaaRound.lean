import Derived.Test.YtoefligelajfkaaUnLaw
import Derived.Test.YtoefligelajfkaaPackSpec
namespace Go.Proofs.Ytoefligelajfkaa.Press

theorem pow2_pos (b : Nat) : (0 : Int) < 2 ^ b := Int.pow_pos (by omega)

/-- What was packed so far is whole: it unpacks to the first bytes. -/
def Full (l out : List Int) (at_ : Nat) : Prop := ∀ X : List Int, uR l.length (out ++ X) [] 0 8 = uR l.length X (l.take at_) 0 8

/-- A group is open: so many items of it are there. -/
structure Enc (l out : List Int) (flag b at_ : Nat) : Prop where
  enc : ∃ (pre pay dec : List Int) (fl : Int), out = pre ++ fl :: pay ∧ flag = pre.length ∧ 0 ≤ fl ∧ fl < 2 ^ b ∧ (b ≠ 0 → pay ≠ []) ∧
    (∀ X : List Int, uR l.length (pre ++ X) [] 0 8 = uR l.length X dec 0 8) ∧
    ∀ (Y : List Int) (g : Int), 0 ≤ g → g % 2 ^ b = fl → uR l.length (pay ++ Y) dec g 0 = uR l.length Y (l.take at_) (g / 2 ^ b) b

theorem uR_open (n : Int) (x : Int) (p out : List Int) (h : p ≠ []) : uR n (x :: p) out 0 8 = uR n p out x 0 := by
  cases p with
  | nil => exact absurd rfl h
  | cons y r => rw [uR, if_pos rfl]

theorem Full.open {l out : List Int} {at_ : Nat} (h : Full l out at_) : Enc l (out ++ [0]) out.length 0 at_ :=
  ⟨out, [], l.take at_, 0, rfl, rfl, by omega, by decide, fun h => absurd rfl h, h, fun Y g _ _ => by simp⟩

theorem Enc.close {l out : List Int} {flag at_ : Nat} (h : Enc l out flag 8 at_) : Full l out at_ := by
  obtain ⟨pre, pay, dec, fl, rfl, rfl, h0, h1, hp, h2, h3⟩ := h.enc
  intro X
  rw [List.append_assoc, h2, List.cons_append, uR_open _ _ _ _ (by have := hp (by decide); intro e; exact this (List.append_eq_nil_iff.1 e).1),
    h3 X fl h0 (Int.emod_eq_of_lt h0 h1)]
  exact uR_eight _ _ _ _ _

theorem Enc.last {l out : List Int} {flag b : Nat} (h : Enc l out flag b l.length) (hb : b ≠ 0) (hb8 : b ≠ 8) : uR l.length out [] 0 8 = (l, 0) := by
  obtain ⟨pre, pay, dec, fl, rfl, rfl, h0, h1, hp, h2, h3⟩ := h.enc
  have e := h3 [] fl h0 (Int.emod_eq_of_lt h0 h1)
  rw [List.append_nil] at e
  rw [h2, uR_open _ _ _ _ (hp hb), e, Int.ediv_eq_zero_of_lt h0 h1, List.take_length]
  rw [uR, if_neg hb8, if_pos rfl, fin, if_neg (by omega)]

theorem emod_split {g : Int} {b : Nat} {fl : Int} {i : Int} (_hi : i = 0 ∨ i = 1) (h0 : 0 ≤ fl) (h1 : fl < 2 ^ b) (h : g % 2 ^ (b + 1) = fl + i * 2 ^ b) : g % 2 ^ b = fl ∧ g / 2 ^ b % 2 = i ∧ g / 2 ^ (b + 1) = g / 2 ^ b / 2 := by
  have hp := pow2_pos b
  have e : (2 : Int) ^ (b + 1) = 2 ^ b * 2 := Int.pow_succ ..
  have e2 : g / 2 ^ (b + 1) = g / 2 ^ b / 2 := by rw [e, Int.ediv_ediv_of_nonneg (by omega)]
  refine ⟨?_, ?_, e2⟩
  · have e3 : g % 2 ^ b = (g % 2 ^ (b + 1)) % 2 ^ b := by rw [e, Int.emod_emod_of_dvd _ ⟨2, rfl⟩]
    rw [e3, h, Int.add_mul_emod_self_right]
    exact Int.emod_eq_of_lt h0 h1
  · have e4 : g = 2 ^ (b + 1) * (g / 2 ^ (b + 1)) + g % 2 ^ (b + 1) := (Int.mul_ediv_add_emod g _).symm
    have e5 : g / 2 ^ b = 2 * (g / 2 ^ (b + 1)) + i := by
      conv => lhs; rw [e4, h, e]
      have e6 : (2 ^ b * 2 * (g / (2 ^ b * 2)) : Int) = 2 * (g / (2 ^ b * 2)) * 2 ^ b := by
        rw [Int.mul_comm (2 ^ b) 2, Int.mul_assoc, Int.mul_comm (2 ^ b) (g / _), ← Int.mul_assoc]
      rw [e6, show (2 * (g / (2 ^ b * 2)) * 2 ^ b + (fl + i * 2 ^ b) : Int) = fl + (2 * (g / (2 ^ b * 2)) + i) * 2 ^ b by rw [Int.add_mul]; omega]
      rw [Int.add_mul_ediv_right _ _ (by omega), Int.ediv_eq_zero_of_lt h0 h1, e, Int.zero_add]
    rw [e5]
    omega

theorem take_succ_getD (l : List Int) (i : Nat) (h : i < l.length) : l.take (i + 1) = l.take i ++ [l.getD i 0] := by
  rw [List.take_succ_eq_append_getElem h, List.getD_eq_getElem?_getD, List.getElem?_eq_getElem h]; rfl

theorem Enc.lit {l out : List Int} {flag b at_ : Nat} (h : Enc l out flag b at_) (hb : b < 8) (hat : at_ < l.length) : Enc l (out ++ [l.getD at_ 0]) flag (b + 1) (at_ + 1) := by
  obtain ⟨pre, pay, dec, fl, rfl, rfl, h0, h1, hp, h2, h3⟩ := h.enc
  refine ⟨pre, pay ++ [l.getD at_ 0], dec, fl, by simp, rfl, h0, ?_, fun _ => by simp, h2, fun Y g hg0 hg => ?_⟩
  · have := pow2_pos b
    rw [Int.pow_succ]; omega
  · obtain ⟨e1, e2, e3⟩ := emod_split (i := 0) (.inl rfl) h0 h1 (by rw [hg]; omega)
    rw [List.append_assoc, h3 _ g hg0 e1, e3, take_succ_getD l at_ hat]
    have hl : ((l.take at_).length : Int) ≠ l.length := by simp; omega
    have hg2 : ¬ g / 2 ^ b % 2 = 1 := by omega
    cases Y with
    | nil => show uR _ [l.getD at_ 0] _ _ _ = _; conv => lhs; rw [uR, if_neg (by omega), if_neg hg2, if_neg hl]
    | cons y r => show uR _ (l.getD at_ 0 :: y :: r) _ _ _ = _; conv => lhs; rw [uR, if_neg (by omega), if_neg hg2, if_neg hl]

theorem copy_take (l : List Int) (d : Nat) : ∀ (L at_ : Nat), 1 ≤ d → d ≤ at_ → at_ + L ≤ l.length → (∀ i, i < L → l.getD (at_ + i) 0 = l.getD (at_ + i - d) 0) → copyB d L (l.take at_) = l.take (at_ + L) := by
  intro L
  induction L with
  | zero => intro at_ _ _ _ _; rfl
  | succ L ih =>
    intro at_ hd hda hl hm
    have hlen : (l.take at_).length = at_ := by simp; omega
    rw [copyB, hlen]
    have e : (l.take at_).getD (at_ - d) 0 = l.getD at_ 0 := by
      have h1 := hm 0 (by omega)
      rw [Nat.add_zero] at h1
      rw [h1]
      rw [List.getD_eq_getElem?_getD, List.getD_eq_getElem?_getD, List.getElem?_take, if_pos (by omega)]
    rw [e, ← take_succ_getD l at_ (by omega), ih (at_ + 1) hd (by omega) (by omega) fun i hi => ?_]
    · congr 1; omega
    · have := hm (i + 1) (by omega)
      rw [show at_ + 1 + i = at_ + (i + 1) by omega]; exact this

theorem Enc.mtch {l out : List Int} {flag b at_ : Nat} (h : Enc l out flag b at_) (hb : b < 8) (L d : Nat) (hL : 3 ≤ L) (hL2 : L ≤ 66) (hd : 1 ≤ d) (hd2 : d ≤ 1024) (hda : d ≤ at_) (hl : at_ + L ≤ l.length)
    (hm : ∀ i, i < L → l.getD (at_ + i) 0 = l.getD (at_ + i - d) 0) :
    Enc l (mark (out ++ [itemV (L, d) / 256, itemV (L, d) % 256]) flag b) flag (b + 1) (at_ + L) := by
  obtain ⟨pre, pay, dec, fl, rfl, rfl, h0, h1, hp, h2, h3⟩ := h.enc
  have hv : itemV (L, d) = ((d : Int) - 1) * 64 + (L - 3) := by unfold itemV; simp only; omega
  generalize itemV (L, d) = v at hv
  have hmk : mark (pre ++ fl :: pay ++ [v / 256, v % 256]) pre.length b = pre ++ (fl + 2 ^ b) :: (pay ++ [v / 256, v % 256]) := by
    unfold mark
    have e1 : (pre ++ fl :: pay ++ [v / 256, v % 256]).getD pre.length 0 = fl := by simp [List.getD_eq_getElem?_getD]
    rw [e1]
    simp
  rw [hmk]
  have hp2 := pow2_pos b
  refine ⟨pre, pay ++ [v / 256, v % 256], dec, fl + 2 ^ b, rfl, rfl, by omega, ?_, fun _ => by simp, h2, fun Y g hg0 hg => ?_⟩
  · rw [Int.pow_succ]; omega
  · obtain ⟨e1, e2, e3⟩ := emod_split (i := 1) (.inr rfl) h0 h1 (by rw [hg]; omega)
    rw [List.append_assoc, h3 _ g hg0 e1, e3]
    show uR _ (v / 256 :: v % 256 :: Y) _ _ _ = _
    have hlen : (l.take at_).length = at_ := by simp; omega
    rw [uR, if_neg (by omega), if_pos e2, show 256 * (v / 256) + v % 256 = v by omega, hlen, if_neg (by omega), if_neg (by omega)]
    rw [show (v / 64 + 1).toNat = d by omega, show (v % 64 + 3).toNat = L by omega, copy_take l d L at_ hd hda hl hm]


/-- A found match is one. -/
theorem grow_spec (l : List Int) (f a most : Nat) : ∀ (k n : Nat), n + k = most → (∀ i, n ≤ i → i < grow l f a most k n → l.getD (f + i) 0 = l.getD (a + i) 0) ∧ (grow l f a most k n = most ∨ l.getD (f + grow l f a most k n) 0 ≠ l.getD (a + grow l f a most k n) 0) := by
  intro k
  induction k with
  | zero =>
    intro n h
    exact ⟨fun i h1 h2 => by simp only [grow] at h2; omega, .inl (by simp only [grow]; omega)⟩
  | succ k ih =>
    intro n h
    rw [grow_succ]
    split
    · rename_i hc
      obtain ⟨h1, h2⟩ := ih (n + 1) (by omega)
      refine ⟨fun i hi hi2 => ?_, h2⟩
      by_cases e : i = n
      · subst e; exact hc.2
      · exact h1 i (by omega) hi2
    · rename_i hc
      refine ⟨fun i h1 h2 => by omega, ?_⟩
      by_cases e : n = most
      · exact .inl e
      · exact .inr fun he => hc ⟨by omega, he⟩

/-- So many bytes are alike from both places on. -/
def Alike (l : List Int) (at_ d n : Nat) : Prop := ∀ i, i < n → l.getD (at_ + i) 0 = l.getD (at_ + i - d) 0

theorem findL_alike (l : List Int) (at_ most : Nat) (hm : 3 ≤ most) : ∀ (ps : List Int) (len dist : Nat), (∀ x ∈ ps, 0 ≤ x ∧ x < at_ ∧ gramEq l x.toNat at_ = true) → (len = 0 ∨ Alike l at_ dist len) →
    ((findL l at_ most ps len dist).1 = 0 ∨ Alike l at_ (findL l at_ most ps len dist).2 (findL l at_ most ps len dist).1) := by
  intro ps
  induction ps with
  | nil => intro len dist _ h; exact h
  | cons f rest ih =>
    intro len dist hp h
    have hf := hp f (by simp)
    have hr : ∀ x ∈ rest, 0 ≤ x ∧ x < at_ ∧ gramEq l x.toNat at_ = true := fun x hx => hp x (by simp [hx])
    have hg := (grow_spec l f.toNat at_ most (most - 3) 3 (by omega)).1
    have ha : Alike l at_ (at_ - f.toNat) (grow l f.toNat at_ most (most - 3) 3) := by
      intro i hi
      have e : at_ + i - (at_ - f.toNat) = f.toNat + i := by omega
      rw [e]
      by_cases h3 : i < 3
      · have hq := hf.2.2
        unfold gramEq at hq
        simp only [Bool.and_eq_true, decide_eq_true_eq] at hq
        obtain ⟨⟨q0, q1⟩, q2⟩ := hq
        have : i = 0 ∨ i = 1 ∨ i = 2 := by omega
        rcases this with rfl | rfl | rfl
        · exact q0.symm
        · exact q1.symm
        · exact q2.symm
      · exact (hg i (by omega) hi).symm
    unfold findL
    split
    · exact h
    · split
      · split
        · exact .inr ha
        · exact ih _ _ hr (.inr ha)
      · split
        · exact h
        · exact ih _ _ hr h

theorem places_gram {l : List Int} {at_ p : Nat} {x : Int} (h : x ∈ places l at_ p) : gramEq l x.toNat p = true := by
  unfold places at h
  obtain ⟨q, hq, rfl⟩ := List.mem_map.1 h
  have := (List.mem_filter.1 hq).2
  simp only [Bool.and_eq_true] at this
  simpa using this.2

theorem fnd_alike (l : List Int) (at_ : Nat) : (fnd l at_).1 = 0 ∨ Alike l at_ (fnd l at_).2 (fnd l at_).1 := by
  unfold fnd findS
  split
  · exact .inl rfl
  · exact findL_alike l at_ _ (by omega) _ 0 0 (fun x hx => ⟨(places_mem (List.mem_reverse.1 hx)).1, (places_mem (List.mem_reverse.1 hx)).2, places_gram (List.mem_reverse.1 hx)⟩) (.inl rfl)

/-- What is known between two items. -/
def St (l out : List Int) (flag items at_ : Nat) : Prop := (items % 8 = 0 ∧ Full l out at_) ∨ (items % 8 ≠ 0 ∧ Enc l out flag (items % 8) at_)

theorem St.next {l out : List Int} {flag items at_ : Nat} (h : Enc l out flag (items % 8 + 1) at_) : St l out flag (items + 1) at_ := by
  by_cases h7 : items % 8 = 7
  · rw [h7] at h
    exact .inl ⟨by omega, h.close⟩
  · have e : (items + 1) % 8 = items % 8 + 1 := by omega
    exact .inr ⟨by omega, by rw [e]; exact h⟩

theorem packR_back (l : List Int) : ∀ (k : Nat) (out : List Int) (flag items at_ : Nat), at_ ≤ l.length → l.length ≤ at_ + k → St l out flag items at_ → uR l.length (packR l k out flag items at_) [] 0 8 = (l, 0) := by
  intro k
  induction k with
  | zero =>
    intro out flag items at_ h1 h2 h
    obtain rfl : at_ = l.length := by omega
    rw [packR]
    rcases h with ⟨_, h⟩ | ⟨h8, h⟩
    · have := h []
      rw [List.append_nil] at this
      rw [this, List.take_length, uR, if_pos rfl, fin, if_neg (by omega)]
    · exact h.last h8 (by omega)
  | succ k ih =>
    intro out flag items at_ h1 h2 h
    rw [packR]
    by_cases hat : at_ < l.length
    · rw [if_pos hat]
      have hE : Enc l (if items % 8 = 0 then out ++ [0] else out) (if items % 8 = 0 then out.length else flag) (items % 8) at_ := by
        rcases h with ⟨h8, h⟩ | ⟨h8, h⟩
        · rw [if_pos h8, if_pos h8, h8]; exact h.open
        · rw [if_neg h8, if_neg h8]; exact h
      by_cases hn : (fnd l at_).1 = 0
      · rw [if_pos hn]
        exact ih _ _ _ _ (by omega) (by omega) (St.next (hE.lit (by omega) hat))
      · rw [if_neg hn]
        have hb := (fnd_bounds l at_).resolve_left hn
        have ha := (fnd_alike l at_).resolve_left hn
        have hM := hE.mtch (by omega) (fnd l at_).1 (fnd l at_).2 hb.1 hb.2.1 hb.2.2.2.1 hb.2.2.2.2.1 hb.2.2.2.2.2 hb.2.2.1 ha
        exact ih _ _ _ _ (by omega) (by omega) (St.next hM)
    · rw [if_neg hat]
      obtain rfl : at_ = l.length := by omega
      rcases h with ⟨_, h⟩ | ⟨h8, h⟩
      · have := h []
        rw [List.append_nil] at this
        rw [this, List.take_length, uR, if_pos rfl, fin, if_neg (by omega)]
      · exact h.last h8 (by omega)

/-- What was packed unpacks to just what it was. -/
theorem pack_unpack (l : List Int) (h : l.length ≤ 4096) : unpackS (packS l).1 l.length = (l, 0) := by
  have e : packS l = (packR l l.length [] 0 0 0, 0) := by unfold packS; rw [if_neg (by omega)]
  rw [e]
  unfold unpackS
  rw [if_neg (by omega)]
  exact packR_back l l.length [] 0 0 0 (by omega) (by omega) (.inl ⟨rfl, fun X => by simp⟩)

def Bytes (l : List Int) : Prop := ∀ x ∈ l, 0 ≤ x ∧ x ≤ 255
theorem Bytes.append {a b : List Int} (h : Bytes a) (k : Bytes b) : Bytes (a ++ b) := fun x hx => (List.mem_append.1 hx).elim (h x) (k x)
theorem Bytes.getD {l : List Int} (h : Bytes l) (i : Nat) : 0 ≤ l.getD i 0 ∧ l.getD i 0 ≤ 255 := by
  rw [List.getD_eq_getElem?_getD]
  cases hi : l[i]? with
  | none => simp
  | some x => exact h x (List.mem_of_getElem? hi)
theorem pow_le_128 {b : Nat} (h : b ≤ 7) : (2 : Int) ^ b ≤ 128 := by exact_mod_cast (Nat.pow_le_pow_right (by omega) h : 2 ^ b ≤ 2 ^ 7)

/-- What is packed is bytes, and not more than is said. -/
theorem packR_bytes (l : List Int) (hl : Bytes l) : ∀ (k : Nat) (out : List Int) (flag items at_ : Nat), at_ ≤ l.length → items ≤ at_ → Bytes out → (items % 8 ≠ 0 → FlagOk out flag (items % 8)) → out.length ≤ at_ + (items + 7) / 8 →
    Bytes (packR l k out flag items at_) ∧ (packR l k out flag items at_).length ≤ l.length + (l.length + 7) / 8 := by
  intro k
  induction k with
  | zero => intro out flag items at_ h1 h2 h3 h4 h5; exact ⟨h3, by rw [packR]; omega⟩
  | succ k ih =>
    intro out flag items at_ h1 h2 h3 h4 h5
    rw [packR]
    by_cases hat : at_ < l.length
    · rw [if_pos hat]
      obtain ⟨out1, flag1, ho, hf, hB, hF, hL⟩ : ∃ out1 flag1, (if items % 8 = 0 then out ++ [0] else out) = out1 ∧ (if items % 8 = 0 then out.length else flag) = flag1 ∧ Bytes out1 ∧ FlagOk out1 flag1 (items % 8) ∧ out1.length ≤ at_ + (items + 8) / 8 := by
        by_cases h8 : items % 8 = 0
        · refine ⟨_, _, rfl, rfl, ?_⟩
          rw [if_pos h8, if_pos h8, h8]
          exact ⟨h3.append (by intro x hx; simp at hx; omega), FlagOk.new out, by simp; omega⟩
        · refine ⟨_, _, rfl, rfl, ?_⟩
          rw [if_neg h8, if_neg h8]
          exact ⟨h3, h4 h8, by omega⟩
      rw [ho, hf]
      have nxt : ∀ {o : List Int}, FlagOk o flag1 (items % 8 + 1) → ((items + 1) % 8 ≠ 0 → FlagOk o flag1 ((items + 1) % 8)) := fun h h8 => by
        have e : (items + 1) % 8 = items % 8 + 1 := by omega
        rw [e]; exact h
      by_cases hn : (fnd l at_).1 = 0
      · rw [if_pos hn]
        refine ih _ _ _ _ (by omega) (by omega) (hB.append ?_) (nxt (hF.append _).up) (by simp; omega)
        intro x hx
        simp at hx
        subst hx
        exact hl.getD at_
      · rw [if_neg hn]
        have hb := (fnd_bounds l at_).resolve_left hn
        have hv : 0 ≤ itemV (fnd l at_) ∧ itemV (fnd l at_) ≤ 65535 := by unfold itemV; omega
        have hB2 : Bytes (out1 ++ [itemV (fnd l at_) / 256, itemV (fnd l at_) % 256]) := by
          refine hB.append fun x hx => ?_
          simp at hx
          rcases hx with rfl | rfl <;> omega
        have hF2 := hF.append [itemV (fnd l at_) / 256, itemV (fnd l at_) % 256]
        refine ih _ _ _ _ (by omega) (by omega) ?_ (nxt hF2.mark) (by rw [mark_length]; simp; omega)
        unfold mark
        intro x hx
        rcases List.mem_or_eq_of_mem_set hx with h | rfl
        · exact hB2 x h
        · have := hF2.lo
          have := hF2.hi
          have := pow_le_128 (b := items % 8) (by omega)
          have := pow2_pos (items % 8)
          omega
    · rw [if_neg hat]; exact ⟨h3, by omega⟩

theorem packS_bytes (l : List Int) (hl : Bytes l) : Bytes (packS l).1 := by
  unfold packS
  split
  · intro x hx; simp at hx
  · exact (packR_bytes l hl l.length [] 0 0 0 (by omega) (by omega) (fun x hx => by simp at hx) (fun h => absurd rfl h) (by simp)).1
theorem packS_length (l : List Int) (hl : Bytes l) : (packS l).1.length ≤ l.length + (l.length + 7) / 8 := by
  unfold packS
  split
  · simp
  · exact (packR_bytes l hl l.length [] 0 0 0 (by omega) (by omega) (fun x hx => by simp at hx) (fun h => absurd rfl h) (by simp)).2

end Go.Proofs.Ytoefligelajfkaa.Press
