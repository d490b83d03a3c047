import Derived.Test.YtoefligelajfkaaGram
import Derived.Test.YtoefligelajfkaaMap
import Derived.Test.YtoefligelajfkaaFindSpec
import Derived.Test.YtoefligelajfkaaRefUn
import Derived.WalkMore
import Derived.Outline
namespace Go.Proofs.Ytoefligelajfkaa.Press
open Go.RowKit Go.Proofs.YtoefligelajfkaaW.PrintWords Go.Proofs.YtoefligelajfkaaW.PrintLast Go.Proofs.YtoefligelajfkaaW.PrintMore
open Go.Maps (Keyed)
open Go.WideMaps (ArrKey)
attribute [local go_sem] min2_int min_two

theorem arr81 : ArrKey Try.prog 81 5 3 := ⟨Try.underlying81, by kernel_rfl, by kernel_rfl, by kernel_rfl⟩
theorem K81 : Keyed Try.prog 81 := Keyed.of_law arr81.law
theorem zero83 (w : World) : (zeroValue 83).run Try.prog w = .ok (.slice none 0 0) w := by kernel_rfl
def key3 (a b c : Int) : Value := .agg #[.int .u8 a, .int .u8 b, .int .u8 c]
def keyAt (l : List Int) (i : Nat) : Value := key3 (l.getD i 0) (l.getD (i + 1) 0) (l.getD (i + 2) 0)
theorem wf_u8 {a : Int} (h : 0 ≤ a ∧ a ≤ 255) : (Lit.int .u8 a).wf = true := by
  simp [Lit.wf, IntKind.min, IntKind.max, IntKind.bits, IntKind.signed]; omega
theorem keyOf_key3 {a b c : Int} (wa : (Lit.int .u8 a).wf = true) (wb : (Lit.int .u8 b).wf = true) (wc : (Lit.int .u8 c).wf = true) : ∃ l, keyOf Try.prog 81 (key3 a b c) = some l := by
  have hkt := arr81.keyType ⟨_, rfl⟩
  obtain ⟨m, hm⟩ : ∃ m, Try.prog.types.size = m + 1 := ⟨_, rfl⟩
  unfold keyOf key3
  simp only [arr81.hu]
  rw [if_pos (by simp [hkt, Value.formed, arr81.hu, arr81.size]), hm]
  unfold Program.keyLits
  simp only [arr81.hu, Value.cells]
  rw [if_pos (by rw [arr81.size]; rfl), show List.range 3 = [0, 1, 2] from rfl, List.mapM_cons, List.mapM_cons, List.mapM_cons, List.mapM_nil]
  simp [arr81.one, Program.keyLits, Try.underlying5, wa, wb, wc]
theorem rd_mem {l : List Int} {j : Nat} (h : j < l.length) : rd l (j : Int) ∈ l := by
  rw [rd, Int.toNat_natCast, List.getD_eq_getElem?_getD, List.getElem?_eq_getElem h]
  exact List.getElem_mem h
theorem keyOf_at {l : List Int} (hby : ∀ x ∈ l, 0 ≤ x ∧ x ≤ 255) (i : Nat) : ∃ k, keyOf Try.prog 81 (keyAt l i) = some k := by
  have h := fun j : Nat => wf_u8 (by have := rd_byte hby (j : Int); simpa [rd] using this : 0 ≤ l.getD j 0 ∧ l.getD j 0 ≤ 255)
  exact keyOf_key3 (h _) (h _) (h _)

theorem gram_at (A0 : Option Addr) (c0 : Nat) (l0 : List Int) (i : Nat) (w : World) (hr0 : Kd.C (Kd.int .u8) w A0 l0.length l0) (hi : i + 3 ≤ l0.length) (hl : l0.length ≤ 140737488355328) :
    Calls Try.prog 51 #[.slice A0 l0.length c0, .int .i64 i] w fun e w' => e = .returned (keyAt l0 i) ∧ Below w.heap.size w w' := by
  refine (gram_any A0 c0 l0 i (i + 1 : Nat) (i + 2 : Nat) w hr0 (by omega) (by omega) (by rw [IntWalk.i64_in _ (by omega)]; omega) (by rw [IntWalk.i64_in _ (by omega)]; omega) hl).mono ?_
  rintro e w' ⟨rfl, hb⟩
  refine ⟨?_, hb⟩
  simp only [rd, Int.toNat_natCast, keyAt, key3]

set_option maxHeartbeats 4000000 in
theorem find_walk (b base : Nat) (G : Value → List Int) (A0 : Option Addr) (c0 : Nat) (l0 : List Int) (p : Nat) (w : World) (hG : Grp Try.prog 81 w b base G)
    (hr0 : Kd.C (Kd.int .u8) w A0 l0.length l0) (hby : ∀ x ∈ l0, 0 ≤ x ∧ x ≤ 255) (hl : l0.length ≤ 4096) (hi : p + 3 ≤ l0.length)
    (hpl : ∀ x ∈ G (keyAt l0 p), 0 ≤ x ∧ x < p) (hpn : (G (keyAt l0 p)).length ≤ 4096) :
    Calls Try.prog 50 #[.map (some b), .slice A0 l0.length c0, .int .i64 p] w fun e w' =>
      e = .returned (.tuple #[.int .i64 (findS (G (keyAt l0 p)) l0 p).1, .int .i64 (findS (G (keyAt l0 p)) l0 p).2]) ∧ Below w.heap.size w w' := by
  obtain ⟨kl, hkl⟩ := keyOf_at hby p
  obtain ⟨places, hpd⟩ : ∃ places, G (keyAt l0 p) = places := ⟨_, rfl⟩
  obtain ⟨rs, hrs⟩ : ∃ rs, findS places l0 p = rs := ⟨_, rfl⟩
  rw [hpd] at hpl hpn ⊢
  rw [hrs]
  have HPL := hpn
  have HRS := Aside0.mk hrs
  have HPD := Aside0.mk hpd
  clear hrs hpd
  obtain ⟨most, hm⟩ : ∃ most : Nat, most = min 66 (l0.length - p) := ⟨_, rfl⟩
  have hmin : (if (l0.length : Int) - (p : Int) < 66 then (l0.length : Int) - (p : Int) else 66) = (most : Int) := by split <;> omega
  have hmo : 3 ≤ most := by omega
  have hmo1 : most ≤ 66 := by omega
  have hmo2 : p + most ≤ l0.length := by omega
  have hp3 : decide ((l0.length : Int) < (p : Int) + 3) = false := by simp; omega
  have hp4 : (p : Int) + 3 ≤ (l0.length : Int) := by omega
  have HM := Aside0.mk hm
  clear hm
  have HP := Aside0.mk hpl
  clear hpl hpn
  have HR0 := Aside0.mk hr0
  clear hr0
  have HK := Aside0.mk hkl
  clear hkl
  go_enter Try.func50, Try.ntmps50
  go_wp2
  go_step3
  go_wp2_with (go_at_call 51; refine (gram_at _ _ _ _ _ HR0.out hi (by omega)).mono ?_; rintro e w1 ⟨rfl, hb⟩; obtain ⟨v, hlk, hv⟩ := (hG.below hb).lookup K81 Try.underlying78 (zero83 _) HK.out; rw [HPD.out] at hv; have HB := Aside0.mk hb; clear hb; obtain ⟨Av, cv, ev⟩ := Kd.R_slice hv; have HV := Aside0.mk hv; clear hv; subst ev)
  clear hmin HK hG
  go_step3
  go_step
  go_step
  go_wp2
  go_loopg [8, 9, 12] (places.length) (fun k v8 v9 v12 w' => ∃ (iv : Int) (len dist : Nat), v8 = .int .i64 len ∧ v9 = .int .i64 dist ∧ v12 = .int .i64 iv ∧ k ≤ places.length ∧ len ≤ 66 ∧ Aside0 (iv + 1 = (k : Int)) ∧ Aside0 (findL l0 p most ((places.take k).reverse) len dist = rs) ∧ Aside0 (Below w1.heap.size w1 w'))
  case atStart =>
    refine ⟨_, 0, 0, rfl, rfl, rfl, Nat.le_refl _, by omega, ⟨by omega⟩, ⟨?_⟩, ⟨Below.refl _ _⟩⟩
    rw [← HRS.out, findS, if_neg (by omega), HM.out, List.take_length]
  case round =>
    obtain ⟨iv, len, dist, rfl, rfl, rfl, hk, hlen, HIV, HFL, HB1⟩ := hrel
    cases gk with
    | zero =>
      obtain rfl : iv = -1 := by have := HIV.out; omega
      go_wp2
      rw [Exit.noGoto_ret]
      have h := HFL.out
      simp only [List.take_zero, List.reverse_nil, findL] at h
      subst h
      go_ret2
      exact ⟨rfl, below_step HB.out HB1.out⟩
    | succ j =>
      obtain rfl : iv = (j : Int) := by have := HIV.out; omega
      have hjl : j < places.length := by omega
      have hj0 : (0 : Int) ≤ (j : Int) := by omega
      obtain ⟨f, hf⟩ : ∃ f : Nat, rd places (j : Int) = (f : Int) := ⟨(rd places (j : Int)).toNat, by have := HP.out _ (rd_mem hjl); omega⟩
      have hfp : f < p := by have := HP.out _ (rd_mem hjl); omega
      have hsplit : (places.take (j + 1)).reverse = (f : Int) :: (places.take j).reverse := by
        rw [List.take_succ_eq_append_getElem hjl, List.reverse_append]
        have : places[j] = (f : Int) := by rw [← hf, rd_nat, List.getD_eq_getElem?_getD, List.getElem?_eq_getElem hjl]; rfl
        rw [this]; rfl
      have hfl := HFL.out
      rw [hsplit, findL, Int.toNat_natCast] at hfl
      clear hsplit
      obtain ⟨ad, e0, hx⟩ := Kd.at_int (Kd.C_below (Kd.R_reads' HV.out).2.2 HB1.out) (j : Int) (by omega) (by omega)
      cases e0
      rw [hf] at hx
      simp only [Int.toNat_natCast] at hx
      have hdist : (p : Int) - (f : Int) = ((p - f : Nat) : Int) := by omega
      obtain ⟨dd, hdd⟩ : ∃ dd : Nat, dd = p - f := ⟨_, rfl⟩
      rw [← hdd] at hdist hfl
      by_cases hfar : dd > 1024
      · rw [if_pos hfar] at hfl
        subst hfl
        have hfar' : (1024 : Int) < (dd : Int) := by omega
        have HF := Aside0.mk hf
        clear hf
        go_wp2
        rw [Exit.noGoto_ret]
        go_ret2
        exact ⟨rfl, below_step HB.out HB1.out⟩
      · rw [if_neg hfar] at hfl
        have hfar' : (dd : Int) ≤ 1024 := by omega
        have HF := Aside0.mk hf
        have HDD := Aside0.mk hdd
        clear hf hdd
        have HFL2 := Aside0.mk hfl
        clear hfl HFL
        go_wp2
        go_loopg [14] (most - 3) (fun k v14 w' => ∃ n : Nat, v14 = .int .i64 n ∧ 3 ≤ n ∧ n + k = most ∧ Aside0 (grow l0 f p most k n = grow l0 f p most (most - 3) 3) ∧ Aside0 (Below w1.heap.size w1 w'))
        case atStart => exact ⟨3, rfl, by omega, by omega, ⟨rfl⟩, HB1⟩
        case round =>
          obtain ⟨n, rfl, hn3, hnk, HGR, HB2⟩ := hrel
          by_cases hnm : n < most
          · obtain ⟨k', rfl⟩ : ∃ k', gk = k' + 1 := ⟨gk - 1, by omega⟩
            obtain ⟨j1, hj1⟩ : ∃ j1 : Nat, j1 = f + n := ⟨_, rfl⟩
            obtain ⟨j2, hj2⟩ : ∃ j2 : Nat, j2 = p + n := ⟨_, rfl⟩
            obtain ⟨ad1, e1, hx1⟩ := Kd.at_int (Kd.C_below (Kd.C_below HR0.out HB.out) HB2.out) (j1 : Int) (by omega) (by omega)
            cases e1
            obtain ⟨ad2, e2, hx2⟩ := Kd.at_int (Kd.C_below (Kd.C_below HR0.out HB.out) HB2.out) (j2 : Int) (by omega) (by omega)
            cases e2
            simp only [Int.toNat_natCast] at hx1 hx2
            have hs1 : (f : Int) + (n : Int) = (j1 : Int) := by omega
            have hs2 : (p : Int) + (n : Int) = (j2 : Int) := by omega
            have hw1 : IntKind.i64.wrap ((f : Int) + (n : Int)) = (j1 : Int) := by rw [hs1]; exact IntWalk.i64_in _ (by omega)
            have hw2 : IntKind.i64.wrap ((p : Int) + (n : Int)) = (j2 : Int) := by rw [hs2]; exact IntWalk.i64_in _ (by omega)
            have hb1 : j1 < l0.length := by omega
            have hb2 : j2 < l0.length := by omega
            have hb3 : (j1 : Int) < (l0.length : Int) := by omega
            have hb4 : (j2 : Int) < (l0.length : Int) := by omega
            have hnm1 : decide (n < most) = true := by simp; omega
            have hnm2 : (n : Int) < (most : Int) := by omega
            have hgr := HGR.out
            rw [grow_succ] at hgr
            rw [← hj1, ← hj2, ← rd_nat, ← rd_nat] at hgr
            have HJ := Aside0.mk (⟨hj1, hj2⟩ : j1 = f + n ∧ j2 = p + n)
            clear hj1 hj2
            by_cases heq : rd l0 (j1 : Int) = rd l0 (j2 : Int)
            · rw [if_pos ⟨hnm, heq⟩] at hgr
              have heq' : (rd l0 (j1 : Int) == rd l0 (j2 : Int)) = true := by rw [heq]; simp
              have HQ := Aside0.mk heq
              clear heq
              have HGR2 := Aside0.mk hgr
              clear hgr HGR
              go_wp2
              go_quiet (fail)
              go_wp2
              go_roundg k'
              case measure => omega
              case rel => exact ⟨n + 1, by go_num, by omega, by omega, HGR2, ⟨pw_below_drewN HB2.out _⟩⟩
            · rw [if_neg (fun h => heq h.2)] at hgr
              have heq' : (rd l0 (j1 : Int) == rd l0 (j2 : Int)) = false := by simpa using heq
              have HGR3 : Aside0 (grow l0 f p most (most - 3) 3 = n) := ⟨hgr.symm⟩
              clear hgr HGR heq
              have hfl := HFL2.out
              rw [HGR3.out] at hfl
              by_cases hn : n > len
              · rw [if_pos hn] at hfl
                have hn1 : (len : Int) < (n : Int) := by omega
                have hn2 : decide (len < n) = true := by simp; omega
                by_cases hme : n = most
                · rw [if_pos hme] at hfl
                  subst hfl
                  have hme1 : ((n : Int) == (most : Int)) = true := by simp; omega
                  have hme2 : (n == most) = true := by simp; omega
                  clear hme
                  go_wp2
                  go_quiet (fail)
                  go_wp2
                  rw [Exit.noGoto_ret]
                  go_ret2
                  exact ⟨rfl, below_step HB.out (pw_below_drewN HB2.out _)⟩
                · rw [if_neg hme] at hfl
                  have hme1 : ((n : Int) == (most : Int)) = false := by simp; omega
                  have hme2 : (n == most) = false := by simp; omega
                  have HFL3 := Aside0.mk hfl
                  clear hme hfl
                  go_wp2
                  go_quiet (fail)
                  go_wp2
                  go_roundg j
                  case measure => omega
                  case rel => exact ⟨_, n, dd, rfl, rfl, rfl, by omega, by omega, ⟨by omega⟩, HFL3, ⟨(pw_below_drewN HB2.out _)⟩⟩
              · rw [if_neg hn] at hfl
                have hn1 : (n : Int) ≤ (len : Int) := by omega
                have hn2 : decide (len < n) = false := by simp; omega
                by_cases hme : len = most
                · rw [if_pos hme] at hfl
                  subst hfl
                  have hme1 : ((len : Int) == (most : Int)) = true := by simp; omega
                  have hme2 : (len == most) = true := by simp; omega
                  clear hme
                  go_wp2
                  go_quiet (fail)
                  go_wp2
                  rw [Exit.noGoto_ret]
                  go_ret2
                  exact ⟨rfl, below_step HB.out (pw_below_drewN HB2.out _)⟩
                · rw [if_neg hme] at hfl
                  have hme1 : ((len : Int) == (most : Int)) = false := by simp; omega
                  have hme2 : (len == most) = false := by simp; omega
                  have HFL3 := Aside0.mk hfl
                  clear hme hfl
                  go_wp2
                  go_quiet (fail)
                  go_wp2
                  go_roundg j
                  case measure => omega
                  case rel => exact ⟨_, len, dist, rfl, rfl, rfl, by omega, by omega, ⟨by omega⟩, HFL3, ⟨(pw_below_drewN HB2.out _)⟩⟩
          · have hk0 : gk = 0 := by omega
            subst hk0
            have HGR3 : Aside0 (grow l0 f p most (most - 3) 3 = n) := ⟨HGR.out.symm⟩
            have hnm1 : decide (n < most) = false := by simp; omega
            have hnm2 : ((most : Nat) : Int) ≤ (n : Int) := by omega
            clear HGR
            have hfl := HFL2.out
            rw [HGR3.out] at hfl
            by_cases hn : n > len
            · rw [if_pos hn] at hfl
              have hn1 : (len : Int) < (n : Int) := by omega
              have hn2 : decide (len < n) = true := by simp; omega
              by_cases hme : n = most
              · rw [if_pos hme] at hfl
                subst hfl
                have hme1 : ((n : Int) == (most : Int)) = true := by simp; omega
                have hme2 : (n == most) = true := by simp; omega
                clear hme
                go_wp2
                go_quiet (fail)
                go_wp2
                rw [Exit.noGoto_ret]
                go_ret2
                exact ⟨rfl, below_step HB.out (pw_below_drewN HB2.out _)⟩
              · rw [if_neg hme] at hfl
                have hme1 : ((n : Int) == (most : Int)) = false := by simp; omega
                have hme2 : (n == most) = false := by simp; omega
                have HFL3 := Aside0.mk hfl
                clear hme hfl
                go_wp2
                go_quiet (fail)
                go_wp2
                go_roundg j
                case measure => omega
                case rel => exact ⟨_, n, dd, rfl, rfl, rfl, by omega, by omega, ⟨by omega⟩, HFL3, ⟨(pw_below_drewN HB2.out _)⟩⟩
            · rw [if_neg hn] at hfl
              have hn1 : (n : Int) ≤ (len : Int) := by omega
              have hn2 : decide (len < n) = false := by simp; omega
              by_cases hme : len = most
              · rw [if_pos hme] at hfl
                subst hfl
                have hme1 : ((len : Int) == (most : Int)) = true := by simp; omega
                have hme2 : (len == most) = true := by simp; omega
                clear hme
                go_wp2
                go_quiet (fail)
                go_wp2
                rw [Exit.noGoto_ret]
                go_ret2
                exact ⟨rfl, below_step HB.out (pw_below_drewN HB2.out _)⟩
              · rw [if_neg hme] at hfl
                have hme1 : ((len : Int) == (most : Int)) = false := by simp; omega
                have hme2 : (len == most) = false := by simp; omega
                have HFL3 := Aside0.mk hfl
                clear hme hfl
                go_wp2
                go_quiet (fail)
                go_wp2
                go_roundg j
                case measure => omega
                case rel => exact ⟨_, len, dist, rfl, rfl, rfl, by omega, by omega, ⟨by omega⟩, HFL3, ⟨(pw_below_drewN HB2.out _)⟩⟩

/-- find, whatever the place. -/
theorem find_any (b base : Nat) (G : Value → List Int) (A0 : Option Addr) (c0 : Nat) (l0 : List Int) (p : Nat) (w : World) (hG : Grp Try.prog 81 w b base G)
    (hr0 : Kd.C (Kd.int .u8) w A0 l0.length l0) (hby : ∀ x ∈ l0, 0 ≤ x ∧ x ≤ 255) (hl : l0.length ≤ 4096) (hp : p ≤ l0.length)
    (hpl : ∀ x ∈ G (keyAt l0 p), 0 ≤ x ∧ x < p) (hpn : (G (keyAt l0 p)).length ≤ 4096) :
    Calls Try.prog 50 #[.map (some b), .slice A0 l0.length c0, .int .i64 p] w fun e w' =>
      e = .returned (.tuple #[.int .i64 (findS (G (keyAt l0 p)) l0 p).1, .int .i64 (findS (G (keyAt l0 p)) l0 p).2]) ∧ Below w.heap.size w w' := by
  by_cases hi : p + 3 ≤ l0.length
  · exact find_walk b base G A0 c0 l0 p w hG hr0 hby hl hi hpl hpn
  · have hs : findS (G (keyAt l0 p)) l0 p = (0, 0) := by unfold findS; rw [if_pos (by omega)]
    rw [hs]
    have h1 : (l0.length : Int) < (p : Int) + 3 := by omega
    go_enter Try.func50, Try.ntmps50
    go_wp2
    go_step3
    go_wp2
    rw [Exit.noGoto_ret]
    go_ret2
    exact ⟨rfl, Below.refl _ _⟩
end Go.Proofs.Ytoefligelajfkaa.Press
