namespace Go.Proofs.Ytoefligelajfkaa.Press

/-- So many bytes more, each the one that stands so far back. -/
def copyB (back : Nat) : Nat → List Int → List Int
  | 0, out => out
  | k + 1, out => copyB back k (out ++ [out.getD (out.length - back) 0])

/-- The end of an Unpack. -/
def fin (n : Int) (out : List Int) : List Int × Int := if (out.length : Int) < n then ([], 41) else (out, 0)

/-- What is left of an Unpack: the packed bytes that are left, what came so far, what is left of the flag, the items taken of it. -/
def uR (n : Int) : List Int → List Int → Int → Nat → List Int × Int
  | [], out, g, items => if items = 8 then fin n out else if g = 0 then fin n out else ([], 40)
  | [x], out, g, items => if items = 8 then ([], 40) else if g % 2 = 1 then ([], 40) else if (out.length : Int) = n then ([], 41) else uR n [] (out ++ [x]) (g / 2) (items + 1)
  | x :: y :: r, out, g, items =>
    if items = 8 then uR n (y :: r) out x 0
    else if g % 2 = 1 then
      if (out.length : Int) < (256 * x + y) / 64 + 1 then ([], 40)
      else if n < out.length + ((256 * x + y) % 64 + 3) then ([], 41)
      else uR n r (copyB ((256 * x + y) / 64 + 1).toNat ((256 * x + y) % 64 + 3).toNat out) (g / 2) (items + 1)
    else if (out.length : Int) = n then ([], 41)
    else uR n (y :: r) (out ++ [x]) (g / 2) (items + 1)

def unpackS (p : List Int) (n : Int) : List Int × Int := if n < 0 ∨ n > 4096 then ([], 1) else uR n p [] 0 8

theorem uR_eight (n : Int) (p out : List Int) (g g' : Int) : uR n p out g 8 = uR n p out g' 8 := by
  match p with
  | [] => simp [uR]
  | [x] => simp [uR]
  | x :: y :: r => simp [uR]

theorem copyB_length (back k : Nat) : ∀ out, (copyB back k out).length = out.length + k := by
  induction k with
  | zero => intro out; rfl
  | succ k ih => intro out; rw [copyB, ih]; simp; omega

theorem drop_cons (l : List Int) (i : Nat) (h : i < l.length) : l.drop i = l.getD i 0 :: l.drop (i + 1) := by
  rw [List.drop_eq_getElem_cons h, List.getD_eq_getElem?_getD, List.getElem?_eq_getElem h]; rfl

section
variable {n : Int} {l out : List Int} {g : Int} {i items : Nat}
theorem uR_g1 (h : i + 1 = l.length) : uR n (l.drop i) out g 8 = ([], 40) := by
  rw [drop_cons l i (by omega), h, List.drop_length]; simp [uR]
theorem uR_g2 (h : i + 1 < l.length) : uR n (l.drop i) out g 8 = uR n (l.drop (i + 1)) out (l.getD i 0) 0 := by
  rw [drop_cons l i (by omega), drop_cons l (i + 1) h]; simp [uR]
theorem uR_e8 : uR n (l.drop l.length) out g 8 = fin n out := by
  rw [List.drop_length]; simp [uR]
theorem uR_i0 (h : items ≠ 8) (hg : g = 0) : uR n (l.drop l.length) out g items = fin n out := by
  rw [List.drop_length]; simp [uR, h, hg]
theorem uR_i1 (h : items ≠ 8) (hg : g ≠ 0) : uR n (l.drop l.length) out g items = ([], 40) := by
  rw [List.drop_length]; simp [uR, h, hg]
theorem uR_m1 (h : items ≠ 8) (hg : g % 2 = 1) (hi : i + 1 = l.length) : uR n (l.drop i) out g items = ([], 40) := by
  rw [drop_cons l i (by omega), hi, List.drop_length]; simp [uR, h, hg]
theorem uR_m2 (h : items ≠ 8) (hg : g % 2 = 1) (hi : i + 1 < l.length) {v : Int} (hv : v = 256 * l.getD i 0 + l.getD (i + 1) 0) :
    uR n (l.drop i) out g items = if (out.length : Int) < v / 64 + 1 then ([], 40) else if n < out.length + (v % 64 + 3) then ([], 41)
      else uR n (l.drop (i + 2)) (copyB (v / 64 + 1).toNat (v % 64 + 3).toNat out) (g / 2) (items + 1) := by
  rw [drop_cons l i (by omega), drop_cons l (i + 1) hi, hv]; simp [uR, h, hg]
theorem uR_l1 (h : items ≠ 8) (hg : g % 2 ≠ 1) (hi : i < l.length) (hn : (out.length : Int) = n) : uR n (l.drop i) out g items = ([], 41) := by
  rw [drop_cons l i hi]
  generalize l.drop (i + 1) = d
  cases d with
  | nil => rw [uR, if_neg h, if_neg hg, if_pos hn]
  | cons y r => rw [uR, if_neg h, if_neg hg, if_pos hn]
theorem uR_l2 (h : items ≠ 8) (hg : g % 2 ≠ 1) (hi : i < l.length) (hn : (out.length : Int) ≠ n) : uR n (l.drop i) out g items = uR n (l.drop (i + 1)) (out ++ [l.getD i 0]) (g / 2) (items + 1) := by
  rw [drop_cons l i hi]
  generalize l.drop (i + 1) = d
  generalize l.getD i 0 = x
  cases d with
  | nil => exact (show (if items = 8 then _ else if g % 2 = 1 then _ else if (out.length : Int) = n then _ else _) = _ by rw [if_neg h, if_neg hg, if_neg hn])
  | cons y r => rw [uR, if_neg h, if_neg hg, if_neg hn]
end


theorem unpackS_a : unpackS [2, 97, 0, 3] 7 = ([97, 97, 97, 97, 97, 97, 97], 0) := by decide
end Go.Proofs.Ytoefligelajfkaa.Press
