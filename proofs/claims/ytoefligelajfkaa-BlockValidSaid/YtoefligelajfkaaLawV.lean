import Derived.Test.YtoefligelajfkaaRValid
import Derived.Test.YtoefligelajfkaaKnown
import Derived.Test.YtoefligelajfkaaCopyK
import Derived.Test.YtoefligelajfkaaWEqStruct
namespace Go.Proofs.Ytoefligelajfkaa.Block
open Go.RowKit Go.Proofs.YtoefligelajfkaaW.PrintWords Go.Proofs.YtoefligelajfkaaW.PrintLast Go.Proofs.YtoefligelajfkaaW.PrintMore Go.Proofs.Ytoefligelajfkaa.Press Go.Proofs.Ytoefligelajfkaa.OpenK
open Go.Proofs.Ytoefligelajfkaa.PBlockOpens (S58 k58 z58 k58_open k58_mk k58_mkM k58_openM rd_T58 at_T58)

theorem eqA58 (d : Nat) (w : World) (x0 y0 : Int) (x1 y1 : Int) (x2 y2 : Int) (x3 y3 : Int) :
    (Op.equalIn (d + 2) 58 (.agg #[.int .i64 x0, .int .i64 x1, .int .i64 x2, .int .i64 x3]) (.agg #[.int .i64 y0, .int .i64 y1, .int .i64 y2, .int .i64 y3])).run Try.prog w = .ok (x0 == y0 && (x1 == y1 && (x2 == y2 && (x3 == y3)))) w := by
  refine eqA_of Try.underlying58 (by kernel_rfl) ?_
  refine eqf_cons (by rfl) (by go_simp; rfl) (by go_simp; rfl) (by go_simp) ?_
  refine eqf_cons (by rfl) (by go_simp; rfl) (by go_simp; rfl) (by go_simp) ?_
  refine eqf_cons (by rfl) (by go_simp; rfl) (by go_simp; rfl) (by go_simp) ?_
  exact eqf_last (by rfl) (by go_simp; rfl) (by go_simp; rfl) (by go_simp)

/-- The cells of a block, as a list. -/
theorem cells4 {w : World} {g o : Nat} {b : S58} (h0 : w.cell? ⟨g, o, none⟩ = some (.int .i64 b.f0)) (h1 : w.cell? ⟨g, o + 1, none⟩ = some (.int .i64 b.f1)) (h2 : w.cell? ⟨g, o + 2, none⟩ = some (.int .i64 b.f2)) (h3 : w.cell? ⟨g, o + 3, none⟩ = some (.int .i64 b.f3)) :
    ∀ (j : Nat) (u : Value), [Value.int .i64 b.f0, .int .i64 b.f1, .int .i64 b.f2, .int .i64 b.f3][j]? = some u → w.cell? ⟨g, o + j, none⟩ = some u := by
  intro j u hu
  match j with
  | 0 => simpa using h0.trans hu
  | 1 => simpa using h1.trans hu
  | 2 => simpa using h2.trans hu
  | 3 => simpa using h3.trans hu
  | j + 4 => simp at hu
theorem k58_free (w : World) (base : Nat) (ok : Nat → Prop) (x : S58) (cs : List Value) (h : k58.M w base ok x cs) (w' : World) (base' : Nat) (ok' : Nat → Prop) : k58.M w' base' ok' x cs := by
  rw [k58_openM h]
  exact k58_mkM w' base' ok' x
theorem k58_KM (w w' : World) (base : Nat) (ok : Nat → Prop) (x : S58) (cs : List Value) (h : k58.K w x cs) : k58.M w' base ok x cs := by
  rw [k58_open h]
  exact k58_mkM w' base ok x
theorem cells_at {w : World} {g n k e base : Nat} {bl : List S58} {b : S58} (h : k58.R e w base (fun _ => True) (.slice (some ⟨g, 0, none⟩) n k) bl) {i : Nat} (hb : rd_T58 bl (i : Int) = b) (hi : i < n) :
    w.cell? ⟨g, i * 4, none⟩ = some (.int .i64 b.f0) ∧ w.cell? ⟨g, i * 4 + 1, none⟩ = some (.int .i64 b.f1) ∧ w.cell? ⟨g, i * 4 + 2, none⟩ = some (.int .i64 b.f2) ∧ w.cell? ⟨g, i * 4 + 3, none⟩ = some (.int .i64 b.f3) := by
  have h' := Kd.R_reads' h
  obtain ⟨ad, e, a0, a1, a2, a3⟩ := at_T58 h'.2.2 (i : Int) (by omega) (by have := h'.1; omega)
  cases e
  rw [Int.toNat_natCast, add_plain, hb] at a0 a1 a2 a3
  exact ⟨a0, a1, a2, a3⟩

def b77 : S58 := ⟨0, 0, 77, 0⟩
/-- The list behind so many rounds of the first loop. -/
def wl (M i : Nat) : List S58 := List.replicate i b77 ++ List.replicate (M - i) z58
theorem wl_length (M i : Nat) (h : i ≤ M) : (wl M i).length = M := by simp [wl]; omega
theorem wl_get (M i : Nat) (h : i < M) : rd_T58 (wl M i) (i : Int) = z58 := by
  rw [rd_T58, Int.toNat_natCast, wl, List.getD_eq_getElem?_getD, List.getElem?_append_right (by simp), List.length_replicate, Nat.sub_self]
  rw [List.getElem?_replicate, if_pos (by omega)]; rfl
theorem wl_set (M i : Nat) (h : i < M) : (wl M i).set i b77 = wl M (i + 1) := by
  rw [wl, wl, List.set_append_right _ _ (by simp), List.length_replicate, Nat.sub_self, show M - i = (M - (i + 1)) + 1 by omega, List.replicate_succ, List.set_cons_zero, List.replicate_succ', List.append_assoc]
  rfl

attribute [local go_sem high] eqA58
set_option maxRecDepth 100000 in
set_option maxHeartbeats 4000000 in
theorem blockValid_walk (A0 : Option Addr) (c0 : Nat) (l0 : List S58) (row size : Int) (w : World) (hr0 : k58.C w A0 l0.length l0) (_hc0 : l0.length ≤ c0) (hz : l0.length * 32 ≤ 140737488351232) (_hg : ∀ b ∈ l0, (Lit.int .i64 b.f0).wf = true ∧ (Lit.int .i64 b.f1).wf = true ∧ (Lit.int .i64 b.f2).wf = true ∧ (Lit.int .i64 b.f3).wf = true)
    (_h1 : -9223372036854775808 ≤ row ∧ row ≤ 9223372036854775807) (_h2 : -9223372036854775808 ≤ size ∧ size ≤ 9223372036854775807) :
    Calls Try.prog 13 #[.slice A0 l0.length c0, .int .i64 row, .int .i64 size] w fun e w' => e = .returned (.bool true) ∧ Below w.heap.size w w' := by
  have HR0 := Aside0.mk hr0
  have hl : l0.length ≤ 140737488355328 := by omega
  clear hr0 _h1 _h2 _hg _hc0 hz
  by_cases hb : l0.length > 10000
  · have hb1 : (10000 : Int) < (l0.length : Int) := by omega
    go_enter Try.func13, Try.ntmps13
    go_wp2
    go_ret
    exact ⟨rfl, Below.refl _ _⟩
  have hb1 : decide ((10000 : Int) < (l0.length : Int)) = false := by simp; omega
  have hb2 : decide (10000 < l0.length) = false := by simp; omega
  obtain ⟨M, hM⟩ : ∃ M, l0.length + 3 = M := ⟨_, rfl⟩
  have hM1 : (l0.length : Int) + 3 = (M : Int) := by omega
  go_enter Try.func13, Try.ntmps13
  go_upto_region 4 with (at_make; go_loud (refine Kd.R_make k58 (w0 := w) w.heap.size 58 rfl rfl 47 _ _ rfl (M : Int) rfl rfl Try.underlying47 (.agg #[.int .i64 0, .int .i64 0, .int .i64 0, .int .i64 0]) 32 info58 rfl (by decide) (by omega) z58 (ok := fun _ => True) (okp := fun _ => False) (k58_mkM _ _ _ z58) (fun _ _ => trivial) trivial (by omega) (by simp; omega) (Below.refl _ _) (Nat.le_refl _) ?_); intro v2 w2 ho2 hb2 hg2 hat2)
  rw [Int.toNat_natCast] at ho2
  obtain ⟨g, cap, e2, hgb, -, -⟩ := Kd.R_form ho2 (by simp; omega)
  rw [List.length_replicate] at e2
  subst e2
  have hcap : M ≤ cap := (Kd.R_reads' ho2).2.1
  have hcapi : (M : Int) ≤ (cap : Int) := by omega
  have H0 : Aside0 (k58.R 58 w2 w.heap.size (fun _ => True) (.slice (some ⟨g, 0, none⟩) M cap) (wl M 0) ∧ Below w.heap.size w w2) := ⟨by rw [wl]; exact ho2, hb2⟩
  clear ho2 hb2 hg2 hat2
  go_wp2_with fail
  go_loopg [8] M (fun k v8 w' => ∃ i : Nat, v8 = .int .i64 i ∧ i + k = M ∧ Aside0 (k58.R 58 w' w.heap.size (fun _ => True) (.slice (some ⟨g, 0, none⟩) M cap) (wl M i) ∧ Below w.heap.size w w'))
  case atStart => exact ⟨0, rfl, by omega, H0⟩
  case round =>
    clear H0
    obtain ⟨i, rfl, hik, HI⟩ := hrel
    cases gk with
    | zero =>
      have hi : i = M := by omega
      subst hi
      obtain ⟨fw, hfw⟩ : ∃ fw, l0 ++ List.replicate 3 b77 = fw := ⟨_, rfl⟩
      have hfl : fw.length = i := by rw [← hfw]; simp; omega
      have HFG : Aside0 ((∀ j, j < l0.length → rd_T58 fw (j : Int) = rd_T58 l0 (j : Int)) ∧ (∀ j, l0.length ≤ j → j < i → rd_T58 fw (j : Int) = b77)) := ⟨by
        refine ⟨fun j hj => ?_, fun j h1 h2 => ?_⟩
        · simp only [rd_T58, Int.toNat_natCast, ← hfw, List.getD_eq_getElem?_getD, List.getElem?_append_left hj]
        · simp only [rd_T58, Int.toNat_natCast, ← hfw, List.getD_eq_getElem?_getD, List.getElem?_append_right h1, List.getElem?_replicate]
          rw [if_pos (by omega)]; rfl⟩
      have hco : l0.take (min l0.length (wl i i).length) ++ (wl i i).drop (min l0.length (wl i i).length) = fw := by
        rw [wl_length i i (Nat.le_refl _), Nat.min_eq_left (by omega), List.take_length, ← hfw, wl, Nat.sub_self]
        simp only [List.replicate_zero, List.append_nil, List.drop_replicate]
        rw [show i - l0.length = 3 by omega]
      have HCO := Aside0.mk hco
      have hta : fw.take l0.length = l0 := by rw [← hfw, List.take_left' rfl]
      have HTA := Aside0.mk hta
      have hn3 : (l0.length : Int) ≤ (cap : Int) := by omega
      clear hco hfw hta hik
      obtain ⟨vs, hvs⟩ : ∃ vs, validS l0 row size = vs := ⟨_, rfl⟩
      have HVS := Aside0.mk hvs
      clear hvs
      go_upto_region 10 with (first
        | ((with_reducible refine gate_builtin (b := .copy) (xs := #[.tmp 28, .tmp 29]) rfl ?_); go_loud (refine R_copy_many k58 (w0 := w) w.heap.size rfl (.tmp 28) (.tmp 29) 47 47 58 rfl Try.underlying47 (by kernel_rfl) (by decide) k58_free k58_KM (.slice (some ⟨g, 0, none⟩) i cap) (wl i i) l0 A0 l0.length c0 (fun _ => True) rfl rfl HI.out.1 (Kd.C_below HR0.out HI.out.2) HI.out.2 HI.out.2.size ?_); intro w3 ho3 hb3 hg3; rw [HCO.out] at ho3; have H3 := Aside0.mk (⟨ho3, hb3⟩ : _ ∧ _); clear ho3 hb3 hg3)
        | (go_at_call 40; refine (valid_any (some ⟨g, 0, none⟩) cap l0 row size _ (by have h := Kd.C_take (m := l0.length) (Kd.R_reads' H3.out.1).2.2 (by omega); rw [HTA.out] at h; exact h) hl).mono ?_; rw [HVS.out]; rintro e w4 ⟨rfl, hB4⟩; have H4 : Aside0 (k58.R 58 w4 w.heap.size (fun _ => True) (.slice (some ⟨g, 0, none⟩) i cap) fw ∧ Below w.heap.size w w4) := ⟨Kd.R_below H3.out.1 hB4, below_step H3.out.2 hB4⟩; clear hB4)
        | (go_at_call 41; refine (rvalid_any A0 c0 l0 row size _ (Kd.C_below HR0.out H4.out.2) hl).mono ?_; rw [HVS.out]; rintro e w5 ⟨rfl, hB5⟩; have H5 : Aside0 (k58.R 58 w5 w.heap.size (fun _ => True) (.slice (some ⟨g, 0, none⟩) i cap) fw ∧ Below w.heap.size w w5) := ⟨Kd.R_below H4.out.1 hB5, below_step H4.out.2 hB5⟩; clear hB5))
      clear HI H3 H4
      go_wp2_with fail
      go_loopg [10] i (fun k v10 w' => ∃ q : Nat, v10 = .int .i64 q ∧ q + k = i ∧ Aside0 (k58.R 58 w' w.heap.size (fun _ => True) (.slice (some ⟨g, 0, none⟩) i cap) fw ∧ Below w.heap.size w w'))
      case atStart => exact ⟨0, rfl, by omega, H5⟩
      case round =>
        clear H5
        obtain ⟨q, rfl, hqk, HI⟩ := hrel
        cases gk with
        | zero =>
          have hq : q = i := by omega
          subst hq
          go_wp2_with (go_at_call 37; refine (known_any _).mono ?_; rintro e w6 ⟨rfl, hB6⟩)
          go_ret
          exact ⟨rfl, below_step HI.out.2 hB6⟩
        | succ k =>
          have hq : q < i := by omega
          have hq1 : (q : Int) < (i : Int) := by omega
          by_cases hql : q < l0.length
          · have hq2 : (q : Int) < (l0.length : Int) := by omega
            have d1 : decide (q < l0.length) = true := by simp; omega
            have d2 : decide ((q : Int) < (l0.length : Int)) = true := by simp; omega
            have d3 : decide (l0.length ≤ q) = false := by simp; omega
            have d4 : decide ((l0.length : Int) ≤ (q : Int)) = false := by simp; omega
            obtain ⟨a0, a1, a2, a3⟩ := cells_at HI.out.1 (HFG.out.1 q hql) hq
            obtain ⟨ad, e, b0, b1, b2, b3⟩ := at_T58 (Kd.C_below HR0.out HI.out.2) (q : Int) (by omega) hq2
            cases e
            simp only [Int.toNat_natCast] at b0 b1 b2 b3
            obtain ⟨⟨y0, y1, y2, y3⟩, hy⟩ : ∃ y, rd_T58 l0 (q : Int) = y := ⟨_, rfl⟩
            rw [hy] at a0 a1 a2 a3 b0 b1 b2 b3
            simp only [] at a0 a1 a2 a3 b0 b1 b2 b3
            clear hy
            go_wp2
            go_quiet (fail)
            go_wp2
            go_roundg k
            case measure => omega
            case rel => exact ⟨q + 1, by go_num, by omega, ⟨Kd.R_drewN HI.out.1 _, pw_below_drewN HI.out.2 _⟩⟩
          · have d1 : decide (q < l0.length) = false := by simp; omega
            have d2 : decide ((q : Int) < (l0.length : Int)) = false := by simp; omega
            have d3 : decide (l0.length ≤ q) = true := by simp; omega
            have d4 : decide ((l0.length : Int) ≤ (q : Int)) = true := by simp; omega
            obtain ⟨a0, a1, a2, a3⟩ := cells_at HI.out.1 (HFG.out.2 q (by omega) hq) hq
            simp only [b77] at a0 a1 a2 a3
            go_wp2
            go_quiet (fail)
            go_wp2
            go_roundg k
            case measure => omega
            case rel => exact ⟨q + 1, by go_num, by omega, ⟨Kd.R_drewN HI.out.1 _, pw_below_drewN HI.out.2 _⟩⟩
    | succ k =>
      have hi : i < M := by omega
      have hi1 : (i : Int) < (M : Int) := by omega
      obtain ⟨a0, a1, a2, a3⟩ := cells_at HI.out.1 (wl_get M i hi) hi
      have hcc := cells4 a0 a1 a2 a3
      have HCC := Aside0.mk hcc
      clear hcc a0 a1 a2 a3
      go_wp2_with ((with_reducible refine gate_store (t := 58) (p := 27) (v := .tmp 26) rfl ?_); go_loud (refine Kd.R_store k58 (w0 := w) w.heap.size rfl rfl 58 (.tmp 27) (.tmp 26) rfl 58 (g := g) (n := M) (cap := cap) (o' := i * 4) (i : Int) 0 (wl M i) b77 (.agg #[.int .i64 0, .int .i64 0, .int .i64 77, .int .i64 0]) [.int .i64 0, .int .i64 0, .int .i64 77, .int .i64 0] _ (fun _ => True) (fun _ => False) rfl (by rw [Int.toNat_natCast]; rfl) rfl rfl (by kernel_rfl) (by decide) HI.out.1 (by omega) (by omega) rfl (by rw [Int.toNat_natCast]; exact HCC.out) (by decide) (k58_mkM _ _ _ b77) (fun _ h => h.elim) HI.out.2 ?_); intro w3 ho3 hb3 hg3; rw [Int.toNat_natCast, wl_set M i hi] at ho3; have H3 := Aside0.mk (⟨ho3, hb3⟩ : _ ∧ _); clear ho3 hb3 hg3)
      go_roundg k
      case measure => omega
      case rel => exact ⟨i + 1, by go_num, by omega, H3⟩
end Go.Proofs.Ytoefligelajfkaa.Block
