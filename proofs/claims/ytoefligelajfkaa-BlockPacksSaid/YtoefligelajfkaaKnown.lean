import Derived.Test.YtoefligelajfkaaKnownSpec
import Derived.Test.YtoefligelajfkaaValid
import Derived.Test.YtoefligelajfkaaAux
import Derived.Test.YtoefligelajfkaaLawU
import Derived.Deep.RegionHeld3
import Derived.Deep.DrawnRows
namespace Go.Proofs.Ytoefligelajfkaa.Block
open Go.RowKit Go.Proofs.YtoefligelajfkaaW.PrintWords Go.Proofs.YtoefligelajfkaaW.PrintLast Go.Proofs.YtoefligelajfkaaW.PrintMore Go.Proofs.Ytoefligelajfkaa.Press
open Go.Proofs.Ytoefligelajfkaa.PBlockOpens (S58 k58 z58 k58_open k58_mk k58_mkM k58_openM rd_T58 at_T58 block_Cover.f block_Cover.calls freightlaw11_num.f freightlaw11_num.calls)

structure CellsK (w : World) (g : Nat) : Prop where
  a0 : w.cell? ⟨g, 0, none⟩ = some (.int .i64 0)
  a1 : w.cell? ⟨g, 1, none⟩ = some (.int .i64 16)
  a2 : w.cell? ⟨g, 2, none⟩ = some (.int .i64 16)
  a3 : w.cell? ⟨g, 3, none⟩ = some (.int .i64 1757737011)
  b0 : w.cell? ⟨g, 4, none⟩ = some (.int .i64 16)
  b1 : w.cell? ⟨g, 5, none⟩ = some (.int .i64 4)
  b2 : w.cell? ⟨g, 6, none⟩ = some (.int .i64 16)
  b3 : w.cell? ⟨g, 7, none⟩ = some (.int .i64 3625542228)
  c0 : w.cell? ⟨g, 8, none⟩ = some (.int .i64 20)
  c1 : w.cell? ⟨g, 9, none⟩ = some (.int .i64 2)
  c2 : w.cell? ⟨g, 10, none⟩ = some (.int .i64 2)
  c3 : w.cell? ⟨g, 11, none⟩ = some (.int .i64 267667554)
theorem cellsK {w : World} {g : Nat} (h : k58.C w (some ⟨g, 0, none⟩) 3 blK) : CellsK w g := by
  obtain ⟨ad, e, a0, a1, a2, a3⟩ := at_T58 h 0 (by omega) (by omega)
  cases e
  obtain ⟨ad, e, b0, b1, b2, b3⟩ := at_T58 h 1 (by omega) (by omega)
  cases e
  obtain ⟨ad, e, c0, c1, c2, c3⟩ := at_T58 h 2 (by omega) (by omega)
  cases e
  exact ⟨a0, a1, a2, a3, b0, b1, b2, b3, c0, c1, c2, c3⟩

theorem valid_34 (A : Option Addr) (c : Nat) (w : World) (h : k58.C w A blK.length blK) : Calls Try.prog 40 #[.slice A 3 c, .int .i64 34, .int .i64 16] w fun e w' => e = .returned (.bool true) ∧ Below w.heap.size w w' := by
  have := valid_any A c blK 34 16 w h (by decide)
  rw [valid_known] at this
  exact this
theorem valid_35 (A : Option Addr) (c : Nat) (w : World) (h : k58.C w A blK.length blK) : Calls Try.prog 40 #[.slice A 3 c, .int .i64 35, .int .i64 16] w fun e w' => e = .returned (.bool false) ∧ Below w.heap.size w w' := by
  have := valid_any A c blK 35 16 w h (by decide)
  rw [valid_known'] at this
  exact this
theorem known_str {w : World} {b : Nat} {A : Option Addr} {k : Nat} (h : Kd.R (Kd.int .u8) 5 w b (fun _ => True) (.slice A 16 k) xK) (nd : Nat) :
    (convert 22 9 (.slice A 16 k)).run Try.prog (w.drewN nd) = .ok (.string ⟨#[120, 120, 120, 120, 120, 120, 120, 120, 120, 120, 120, 120, 120, 120, 120, 120]⟩) (w.drewN nd) := by
  have h1 := Kd.C_string (P := Try.prog) (src := 22) (dst := 9) (c := k) Try.underlying22 Try.underlying5 Try.underlying9 (Kd.C_drewN (Kd.R_reads' h).2.2 nd)
  exact h1

set_option maxHeartbeats 4000000 in
theorem known_any (w : World) : Calls Try.prog 37 #[] w fun e w' => e = .returned (.bool true) ∧ Below w.heap.size w w' := by
  have kc := fun (w : World) (C : Array Value) (n c : Nat) => Lib.run_convert_bytes_const (P := Try.prog) w 22 5 C n c Try.underlying22 Try.underlying5
  go_enter Try.func37, Try.ntmps37
  go_upto_region 5 with (first
    | (go_at_call 31; refine (bpack_any (some ⟨w.heap.size, 0, none⟩) 34 rowK 16 _ (lit_mark w rowK (34, 35) (by decide)) (by decide) (by decide) (by decide)).mono ?_; rw [bpack_known]; rintro e w1 ⟨vo, vb, rfl, hRo, hRb, hB1⟩; obtain ⟨go, co, e1, hgo1, hgo2, -⟩ := Kd.R_form hRo (by decide); rw [show outK.length = 22 from rfl] at e1; subst e1; obtain ⟨gb, cb, e2, hgb1, hgb2, -⟩ := Kd.R_form hRb (by decide); rw [show blK.length = 3 from rfl] at e2; subst e2; obtain ⟨a0, a1, a2, a3, b0, b1, b2, b3, d0, d1, d2, d3⟩ := cellsK (Kd.R_reads' hRb).2.2; have HRO := Aside0.mk hRo; have HRB := Aside0.mk hRb; have HB1 := Aside0.mk (below_step (below_alloc (Below.refl _ _) _) hB1); clear hRo hRb hB1)
    | (go_at_call 34; refine (freightlaw11_num.calls _ _ _ rfl).mono ?_; rintro e w2 ⟨rfl, ⟨nd, rfl⟩⟩))
  have HW : Aside0 (CellsK (w1.drewN nd) gb ∧ Kd.R (Kd.int .u8) 5 (w1.drewN nd) w.heap.size (fun _ => True) (.slice (some ⟨go, 0, none⟩) 22 co) outK ∧ k58.R 58 (w1.drewN nd) w.heap.size (fun _ => True) (.slice (some ⟨gb, 0, none⟩) 3 cb) blK ∧ Below w.heap.size w (w1.drewN nd)) :=
    ⟨cellsK (Kd.R_reads' (Kd.R_drewN HRB.out nd)).2.2, Kd.R_lower (Kd.R_drewN HRO.out nd) (by simp), Kd.R_lower (Kd.R_drewN HRB.out nd) (by simp), pw_below_drewN HB1.out _⟩
  clear a0 a1 a2 a3 b0 b1 b2 b3 d0 d1 d2 d3 HRO HRB HB1 hgo1 hgb1 hgo2 hgb2
  generalize w1.drewN nd = W at HW
  obtain ⟨-, -, -, -, b0, b1, b2, b3, -, -, -, -⟩ := HW.out.1
  have hco := (Kd.R_reads' HW.out.2.1).2.1
  have hco1 : (20 : Int) ≤ (co : Int) := by omega
  have hco2 : co ≠ 16 := by omega
  have hsrc : Kd.C (Kd.int .u8) W (some ⟨go, 16, none⟩) 4 [2, 120, 0, 12] := by
    have h := Kd.C_mid (lo := 16) (hi := 20) (c := co) (Kd.R_reads' HW.out.2.1).2.2 (by omega) (by decide) hco
    rw [if_neg hco2] at h
    exact h
  have HS := Aside0.mk hsrc
  have HE := Aside0.mk (Kd.R_drew (empty_row W w.heap.size HW.out.2.2.2.size))
  have HBE := Aside0.mk (Below.drew (HW.out.2.2.2.alloc HW.out.2.2.2.size (.cells #[] 5)))
  have HRE := Aside0.mk (Kd.R_drew (Kd.R_alloc HW.out.2.2.1 (.cells #[] 5)))
  clear hsrc
  go_region_held3 (fun w' => w'.cell? ⟨gb, 4, none⟩ = some (.int .i64 16) ∧ w'.cell? ⟨gb, 5, none⟩ = some (.int .i64 4) ∧ w'.cell? ⟨gb, 6, none⟩ = some (.int .i64 16) ∧ w'.cell? ⟨gb, 7, none⟩ = some (.int .i64 3625542228)) (go_keep)
    (first
      | (refine Kd.R_append_rows_step (Kd.int .u8) (w0 := w) w.heap.size rfl (.tmp 66) (.tmp 68) 22 5 (.int .u8 0) 1 rfl Try.underlying22 info5 rfl (by decide) (by omega) (.slice (some ⟨W.heap.size, 0, none⟩) 0 0) [] [2, 120, 0, 12] (some ⟨go, 16, none⟩) 4 (co - 16) (fun _ => True) (fun _ => False) rfl rfl HE.out (Kd.C_drew (Kd.C_alloc HS.out _)) (fun _ _ h => h) (fun _ hk => hk.elim) (fun _ _ => trivial) HBE.out HBE.out.size (by simp) ?_; intro v3 w3 ho3 hb3 hg3 hat3; have ho3' : Kd.R (Kd.int .u8) 5 w3 w.heap.size (fun _ => True) v3 [2, 120, 0, 12] := ho3; obtain ⟨A3, k3, rfl⟩ := Kd.R_slice ho3'; have hRb3 := Kd.R_over' (v := .slice (some ⟨W.heap.size, 0, none⟩) 0 0) (e' := 5) HRE.out (Kd.R_typed HE.out) (by decide) hg3; obtain ⟨-, -, -, -, d0, d1, d2, d3, -, -, -, -⟩ := cellsK (Kd.R_reads' hRb3).2.2)
      | (go_simp; go_at_call 39; refine (bopen_any A3 k3 [2, 120, 0, 12] 16 4 16 3625542228 _ (Kd.R_reads' ho3').2.2 (by decide) (by decide)).mono ?_; rw [open_known]; rintro e w4 ⟨v4, rfl, hR4, hB4⟩; have hRb4 := Kd.R_below hRb3 hB4; obtain ⟨-, -, -, -, d0, d1, d2, d3, -, -, -, -⟩ := cellsK (Kd.R_reads' hRb4).2.2))
  have HX : Aside0 (Kd.R (Kd.int .u8) 5 w4 w.heap.size (fun _ => True) v4 xK ∧ k58.R 58 w4 w.heap.size (fun _ => True) (.slice (some ⟨gb, 0, none⟩) 3 cb) blK ∧ Below w.heap.size w w4) := ⟨Kd.R_lower hR4 hb3.size, hRb4, below_step hb3 hB4⟩
  obtain ⟨A4, k4, e4⟩ := Kd.R_slice HX.out.1
  rw [show xK.length = 16 from rfl] at e4
  subst e4
  clear hR4 hRb4 hB4 hRb3 ho3' ho3 hb3 hg3 hat3 HS HE HBE HRE HW b0 b1 b2 b3 d0 d1 d2 d3 hco hco1 hco2 kc
  go_upto_region 7 with (go_at_call 42; refine (block_Cover.calls 16 15 2 0 2 _ cover_known).mono ?_; rintro e w5 ⟨rfl, ⟨nd5, rfl⟩⟩)
  have HY : Aside0 (Kd.R (Kd.int .u8) 5 (w4.drewN nd5) w.heap.size (fun _ => True) (.slice A4 16 k4) xK ∧ k58.R 58 (w4.drewN nd5) w.heap.size (fun _ => True) (.slice (some ⟨gb, 0, none⟩) 3 cb) blK ∧ Below w.heap.size w (w4.drewN nd5)) :=
    ⟨Kd.R_drewN HX.out.1 _, Kd.R_drewN HX.out.2.1 _, pw_below_drewN HX.out.2.2 _⟩
  clear HX
  generalize w4.drewN nd5 = W4 at HY
  go_wp2_with (first
    | (go_at_call 34; refine (freightlaw11_num.calls _ _ _ rfl).mono ?_; rintro e w2 ⟨rfl, ⟨nd6, rfl⟩⟩; have hst := known_str HY.out.1 nd6)
    | (go_at_call 40; (with_reducible refine (valid_34 _ _ _ (Kd.R_reads' (Kd.R_drewN HY.out.2.1 nd6)).2.2).mono ?_); rintro e w7 ⟨rfl, hB7⟩)
    | (go_at_call 40; (with_reducible refine (valid_35 _ _ _ (Kd.R_reads' (Kd.R_below (Kd.R_drewN HY.out.2.1 nd6) hB7)).2.2).mono ?_); rintro e w8 ⟨rfl, hB8⟩))
  go_ret
  exact ⟨rfl, below_step (below_step (pw_below_drewN HY.out.2.2 _) hB7) hB8⟩
end Go.Proofs.Ytoefligelajfkaa.Block
