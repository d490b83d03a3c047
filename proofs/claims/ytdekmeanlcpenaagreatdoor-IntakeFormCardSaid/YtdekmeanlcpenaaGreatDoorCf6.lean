import Derived.Test.YtdekmeanlcpenaaGreatDoorCf5
import Derived.Test.YtdekmeanlcpenaaGreatDoorCf4
import Derived.Lib.ConvBytes
import Derived.Test.YtdekmeanlcpenaaGreatDoorCf3
import Derived.Test.YtdekmeanlcpenaaGreatDoorPIntakeEncodesx0
namespace Go.Proofs.YtdekmeanlcpenaaGreatDoor.Codec
open Go.RowKit Go.Proofs.YtdekmeanlcpenaaGreatDoorW.PrintWords Go.Proofs.YtdekmeanlcpenaaGreatDoor.Mid
set_option maxHeartbeats 1000000
set_option maxRecDepth 100000
theorem fixed1_any (b0 g : Nat) (u : Value) (out : List Int) (v : Nat) (w : World) (hW : Wr b0 w g u out) (hv : v < 256) (hl : out.length ≤ 900000000) :
    Calls Tryz.prog 51 #[.pointer (some ⟨g, 0, none⟩), .int .i64 v, .int .i64 1] w fun e w' => e = .returned (.tuple #[]) ∧ NxE b0 w g u (out ++ fixW v 1) w' := by
  have HW := Aside0.mk hW
  have HV := Aside0.mk hv
  have hb1 : decide ((v : Int) < 0) = false := by simp
  have hb2 : decide ((256 : Int) ≤ (v : Int)) = false := by simp; omega
  clear hW hv
  go_enter Tryz.func51, Tryz.ntmps51
  go_upto_region 1 with (fail)
  go_wp2_with fail
  refine wp_loop_rounds 2 ?_
  rw [rounds_succ]
  go_wp2_with (first
    | (at_builtin; refine Kd.R_append (Kd.int .u8) (w0 := w) w.heap.size rfl (.tmp 35) (.tmp 41) 47 5 (.int .u8 0) 1 rfl Tryz.underlying47 info5 rfl (by decide) (by omega) (.slice none 0 0) ([] : List Int) ((v : Int) % 256) [.int .u8 ((v : Int) % 256)] (fun _ => True) (fun _ => False) rfl rfl (u8_M _) (fun _ hk => hk.elim) (fun _ _ => trivial) (Kd.R_nil _ _ _ _ _) (Below.refl _ _) (Nat.le_refl _) (by decide) ?_
       intro v1 w1 ho hb hg hat
       obtain ⟨d1, hd⟩ : ∃ d, d = ([] : List Int) ++ [(v : Int) % 256] := ⟨_, rfl⟩
       have D1 := Aside0.mk hd
       rw [← hd] at ho
       clear hd
       obtain ⟨A1, k1, e1⟩ := Kd.R_slice ho
       subst e1
       have H1 := Aside0.mk (⟨ho, hb⟩ : _ ∧ _)
       clear ho hb hg hat))
  have hl1 : d1.length ≤ 1 := by rw [D1.out]; simp
  rw [rounds_succ]
  go_wp2_with (go_at_call 99; (with_reducible refine (put_any b0 g u out d1 A1 d1.length k1 _ (HW.out.below H1.out.2) (Kd.R_reads' H1.out.1).2.2 (by omega)).mono ?_); rintro e w9 ⟨rfl, h1⟩; have H9 := Aside0.mk h1; clear h1)
  go_end0
  have e : fixW v 1 = d1 := by rw [D1.out]; simp [fixW]; first | done | (have := HV.out; omega)
  rw [e]
  obtain ⟨A9, k9, h9⟩ := H9.out
  exact ⟨rfl, A9, k9, Nx.from_below HW.out H1.out.2 h9⟩
theorem fixed4_any (b0 g : Nat) (u : Value) (out : List Int) (v : Nat) (w : World) (hW : Wr b0 w g u out) (hv : v < 4294967296) (hl : out.length ≤ 900000000) :
    Calls Tryz.prog 51 #[.pointer (some ⟨g, 0, none⟩), .int .i64 v, .int .i64 4] w fun e w' => e = .returned (.tuple #[]) ∧ NxE b0 w g u (out ++ fixW v 4) w' := by
  have HW := Aside0.mk hW
  have HV := Aside0.mk hv
  have hb1 : decide ((v : Int) < 0) = false := by simp
  have hb2 : decide ((4294967296 : Int) ≤ (v : Int)) = false := by simp; omega
  clear hW hv
  go_enter Tryz.func51, Tryz.ntmps51
  go_upto_region 1 with (fail)
  go_wp2_with fail
  refine wp_loop_rounds 5 ?_
  rw [rounds_succ]
  go_wp2_with (first
    | (at_builtin; refine Kd.R_append (Kd.int .u8) (w0 := w) w.heap.size rfl (.tmp 35) (.tmp 41) 47 5 (.int .u8 0) 1 rfl Tryz.underlying47 info5 rfl (by decide) (by omega) (.slice none 0 0) ([] : List Int) ((v : Int) / 16777216 % 256) [.int .u8 ((v : Int) / 16777216 % 256)] (fun _ => True) (fun _ => False) rfl rfl (u8_M _) (fun _ hk => hk.elim) (fun _ _ => trivial) (Kd.R_nil _ _ _ _ _) (Below.refl _ _) (Nat.le_refl _) (by decide) ?_
       intro v1 w1 ho hb hg hat
       obtain ⟨d1, hd⟩ : ∃ d, d = ([] : List Int) ++ [(v : Int) / 16777216 % 256] := ⟨_, rfl⟩
       have D1 := Aside0.mk hd
       rw [← hd] at ho
       clear hd
       obtain ⟨A1, k1, e1⟩ := Kd.R_slice ho
       subst e1
       have H1 := Aside0.mk (⟨ho, hb⟩ : _ ∧ _)
       clear ho hb hg hat))
  have hl1 : d1.length ≤ 1 := by rw [D1.out]; simp
  rw [rounds_succ]
  go_wp2_with (first
    | (at_builtin; refine Kd.R_append (Kd.int .u8) (w0 := w) w.heap.size rfl (.tmp 35) (.tmp 41) 47 5 (.int .u8 0) 1 rfl Tryz.underlying47 info5 rfl (by decide) (by omega) (.slice A1 d1.length k1) d1 ((v : Int) / 65536 % 256) [.int .u8 ((v : Int) / 65536 % 256)] (fun _ => True) (fun _ => False) rfl rfl (u8_M _) (fun _ hk => hk.elim) (fun _ _ => trivial) H1.out.1 H1.out.2 H1.out.2.size (by omega) ?_
       intro v2 w2 ho hb hg hat
       obtain ⟨d2, hd⟩ : ∃ d, d = d1 ++ [(v : Int) / 65536 % 256] := ⟨_, rfl⟩
       have D2 := Aside0.mk hd
       rw [← hd] at ho
       clear hd
       obtain ⟨A2, k2, e2⟩ := Kd.R_slice ho
       subst e2
       have H2 := Aside0.mk (⟨ho, hb⟩ : _ ∧ _)
       clear ho hb hg hat))
  have hl2 : d2.length ≤ 2 := by rw [D2.out]; simp; omega
  rw [rounds_succ]
  go_wp2_with (first
    | (at_builtin; refine Kd.R_append (Kd.int .u8) (w0 := w) w.heap.size rfl (.tmp 35) (.tmp 41) 47 5 (.int .u8 0) 1 rfl Tryz.underlying47 info5 rfl (by decide) (by omega) (.slice A2 d2.length k2) d2 ((v : Int) / 256 % 256) [.int .u8 ((v : Int) / 256 % 256)] (fun _ => True) (fun _ => False) rfl rfl (u8_M _) (fun _ hk => hk.elim) (fun _ _ => trivial) H2.out.1 H2.out.2 H2.out.2.size (by omega) ?_
       intro v3 w3 ho hb hg hat
       obtain ⟨d3, hd⟩ : ∃ d, d = d2 ++ [(v : Int) / 256 % 256] := ⟨_, rfl⟩
       have D3 := Aside0.mk hd
       rw [← hd] at ho
       clear hd
       obtain ⟨A3, k3, e3⟩ := Kd.R_slice ho
       subst e3
       have H3 := Aside0.mk (⟨ho, hb⟩ : _ ∧ _)
       clear ho hb hg hat))
  have hl3 : d3.length ≤ 3 := by rw [D3.out]; simp; omega
  rw [rounds_succ]
  go_wp2_with (first
    | (at_builtin; refine Kd.R_append (Kd.int .u8) (w0 := w) w.heap.size rfl (.tmp 35) (.tmp 41) 47 5 (.int .u8 0) 1 rfl Tryz.underlying47 info5 rfl (by decide) (by omega) (.slice A3 d3.length k3) d3 ((v : Int) % 256) [.int .u8 ((v : Int) % 256)] (fun _ => True) (fun _ => False) rfl rfl (u8_M _) (fun _ hk => hk.elim) (fun _ _ => trivial) H3.out.1 H3.out.2 H3.out.2.size (by omega) ?_
       intro v4 w4 ho hb hg hat
       obtain ⟨d4, hd⟩ : ∃ d, d = d3 ++ [(v : Int) % 256] := ⟨_, rfl⟩
       have D4 := Aside0.mk hd
       rw [← hd] at ho
       clear hd
       obtain ⟨A4, k4, e4⟩ := Kd.R_slice ho
       subst e4
       have H4 := Aside0.mk (⟨ho, hb⟩ : _ ∧ _)
       clear ho hb hg hat))
  have hl4 : d4.length ≤ 4 := by rw [D4.out]; simp; omega
  rw [rounds_succ]
  go_wp2_with (go_at_call 99; (with_reducible refine (put_any b0 g u out d4 A4 d4.length k4 _ (HW.out.below H4.out.2) (Kd.R_reads' H4.out.1).2.2 (by omega)).mono ?_); rintro e w9 ⟨rfl, h1⟩; have H9 := Aside0.mk h1; clear h1)
  go_end0
  have e : fixW v 4 = d4 := by rw [D4.out, D3.out, D2.out, D1.out]; simp [fixW]; first | done | (have := HV.out; omega)
  rw [e]
  obtain ⟨A9, k9, h9⟩ := H9.out
  exact ⟨rfl, A9, k9, Nx.from_below HW.out H4.out.2 h9⟩
end Go.Proofs.YtdekmeanlcpenaaGreatDoor.Codec

namespace Go.Proofs.YtdekmeanlcpenaaGreatDoor.Codec
open Go.RowKit Go.Proofs.YtdekmeanlcpenaaGreatDoorW.PrintWords Go.Proofs.YtdekmeanlcpenaaGreatDoor.Mid
set_option maxHeartbeats 1000000
set_option maxRecDepth 100000
theorem text_any (b0 g : Nat) (u : Value) (out xs : List Int) (A : Option Addr) (m c : Nat) (w : World) (hW : Wr b0 w g u out) (hx : Kd.C (Kd.int .u8) w A m xs) (hA : ∀ ad, A = some ad → 0 < m → ¬ Ws g u ad.block) (hm : m ≤ 1000000) (hl : out.length ≤ 800000000) :
    Calls Tryz.prog 97 #[.pointer (some ⟨g, 0, none⟩), .slice A m c] w fun e w' => e = .returned (.tuple #[]) ∧ NxE b0 w g u (out ++ txtW xs) w' := by
  have HW := Aside0.mk hW
  have HX := Aside0.mk hx
  have HA := Aside0.mk hA
  have hnl := numW_max (v := m) (by omega)
  clear hW hx hA
  go_enter Tryz.func97, Tryz.ntmps97
  go_wp2_with (first
    | (go_at_call 98; refine (number_any b0 g u out m _ HW.out (by omega) (by omega)).mono ?_; rintro e w1 ⟨rfl, A1, k1, h1⟩; have H1 := Aside0.mk h1; clear h1)
    | (go_at_call 50; refine (raw_any b0 g (.slice A1 (out ++ numW m).length k1) (out ++ numW m) xs A m c _ H1.out.wr (C_away HX.out H1.out.kept HA.out) (by rw [List.length_append]; omega)).mono ?_; rintro e w2 ⟨rfl, A2, k2, h2⟩; have H2 := Aside0.mk h2; clear h2))
  go_end0
  have e : out ++ numW m ++ xs = out ++ txtW xs := by rw [List.append_assoc, txtW, HX.out.1]
  rw [← e]
  exact ⟨rfl, A2, k2, H1.out.trans H2.out⟩
end Go.Proofs.YtdekmeanlcpenaaGreatDoor.Codec

namespace Go.Proofs.YtdekmeanlcpenaaGreatDoor.Codec
open Go.RowKit Go.Proofs.YtdekmeanlcpenaaGreatDoorW.PrintWords Go.Proofs.YtdekmeanlcpenaaGreatDoor.Mid
/-- Bytes that lie somewhere, as a row that reads. -/
theorem C_at {w : World} {p : Addr} {xs : List Int} (h : At w p (u8s xs)) (hm : xs.length ≤ 9223372036854775807) : Kd.C (Kd.int .u8) w (some p) xs.length xs := by
  refine ⟨rfl, hm, fun _ => ⟨p, rfl, fun j x hj => ⟨[.int .u8 x], rfl, rfl, fun i u hu => ?_⟩⟩⟩
  cases i with
  | zero =>
    simp at hu
    subst hu
    have h1 := h j (.int .u8 x) (by rw [u8s, List.getElem?_map, hj]; rfl)
    rw [← Addr.add_add, show j * (Kd.int IntKind.u8).sz = j from Nat.mul_one j]
    have e : (p.add j).add 0 = p.add j := by rw [Addr.add_add]; rfl
    rw [e]
    exact h1
  | succ i => simp at hu
theorem C_id {w : World} {p : Addr} {x : List Int} (hx : IdOk x) (h : At w p (u8s x)) : Kd.C (Kd.int .u8) w (some p) 32 x := by
  have := C_at h (by rw [hx.len]; decide)
  rwa [hx.len] at this
theorem Nx.off {b0 g k : Nat} {W W1 : World} {v v1 : Value} {out1 : List Int} (h : Nx b0 W g v W1 v1 out1) (hk : k < W.heap.size) (hn : ¬ Ws g v k) : ¬ Ws g v1 k := fun hk1 => by
  rcases h.ws hk1 with h | h
  · exact hn h
  · omega
theorem Wr.off_new {b0 g k : Nat} {W : World} {v : Value} {out : List Int} (h : Wr b0 W g v out) (hk : W.heap.size ≤ k) : ¬ Ws g v k := fun hk1 => by have := (h.ws_lt hk1).2; omega
theorem Wr.off_old {b0 g k : Nat} {W : World} {v : Value} {out : List Int} (h : Wr b0 W g v out) (hk : k < b0) : ¬ Ws g v k := fun hk1 => by have := (h.ws_lt hk1).1; omega
/-- What is written of a table behind so many results. -/
def tabUp (rs : List Res) (i : Nat) : List Int := numW rs.length ++ (rs.take i).flatMap resW
theorem tabUp_all (rs : List Res) (i : Nat) (h : rs.length ≤ i) : tabUp rs i = tabW rs := by rw [tabUp, List.take_of_length_le h, tabW]
theorem tabUp_step {rs : List Res} {i : Nat} {r : Res} (h : rs[i]? = some r) : tabUp rs (i + 1) = tabUp rs i ++ resW r := by
  rw [tabUp, tabUp, List.take_add_one, h, List.flatMap_append, ← List.append_assoc]; simp
theorem tabUp_len {rs : List Res} (ok : ∀ r ∈ rs, ResOk r) (i : Nat) (hm : rs.length ≤ 32) : (tabUp rs i).length ≤ 2085 := by
  rw [tabUp, List.length_append, flatRes_length (fun r hr => ok r (List.mem_of_mem_take hr)), List.length_take]
  have := numW_max (v := rs.length) (by omega)
  omega
attribute [local go_sem ↓ high] load33_eq load29_eq
attribute [local simp] rowOf_drew rowOf_drewN
attribute [local go_sem high] load33_row load29_row rowOf_drew rowOf_drewN
set_option maxHeartbeats 2000000
set_option maxRecDepth 100000
theorem tab_no (A : Option Addr) (c : Nat) (rs : List Res) (w : World) (hC : resK.C w A rs.length rs) (hc : rs.length ≤ c) (hT : ¬ Table rs) :
    Calls Tryz.prog 96 #[.slice A rs.length c] w fun e w' => e = .returned (.tuple #[.slice none 0 0, .int .i64 80]) ∧ Below w.heap.size w w' := by
  have HT := Aside0.mk hT
  clear hT
  go_enter Tryz.func96, Tryz.ntmps96
  go_wp2_with (go_at_call 31; refine (table_valid A c rs _ hC hc).mono ?_; rintro e w1 ⟨⟨b, rfl, hb⟩, h1⟩; have h0 : b = false := (by cases b; rfl; exact absurd (hb.1 rfl) HT.out); subst h0; have H1 := Aside0.mk h1; clear h1 hb)
  go_ret2
  exact ⟨rfl, H1.out⟩
theorem tab_yes (A : Option Addr) (c : Nat) (rs : List Res) (w : World) (hC : resK.C w A rs.length rs) (hc : rs.length ≤ c) (hok : ∀ r ∈ rs, ResOk r) (hT : Table rs) :
    Calls Tryz.prog 96 #[.slice A rs.length c] w fun e w' => ∃ A1 k1, e = .returned (.tuple #[.slice A1 (tabW rs).length k1, .int .i64 0]) ∧ Kd.R (Kd.int .u8) 5 w' w.heap.size (fun _ => True) (.slice A1 (tabW rs).length k1) (tabW rs) ∧ Below w.heap.size w w' := by
  have HT := Aside0.mk hT
  have HC := Aside0.mk hC
  have HO := Aside0.mk hok
  have hm := hT.most
  clear hT hC hok
  go_enter Tryz.func96, Tryz.ntmps96
  go_wp2_with (first
    | (go_at_call 31; refine (table_valid A c rs _ HC.out hc).mono ?_; rintro e w1 ⟨⟨b, rfl, hb⟩, h1⟩; have h0 : b = true := hb.2 HT.out; subst h0; have H1 := Aside0.mk h1; have HS := Aside0.mk (Wr.start w1); clear h1 hb)
    | (go_at_call 98; refine (number_any w1.heap.size w1.heap.size (.slice none 0 0) [] rs.length _ HS.out (by omega) (by decide)).mono ?_; rintro e w2 ⟨rfl, A2, k2, h2⟩; have H2 := Aside0.mk h2; clear h2)
    | go_in)
  have HB2 : Aside0 (Below w.heap.size w w2) := ⟨(below_alloc H1.out (.cells #[.int .i64 0, .int .i64 0, .slice none 0 0] 114)).trans (H2.out.bel.mono H1.out.size)⟩
  have HN2 : Aside0 (∃ A k, Nx w1.heap.size (w1.alloc (.cells #[.int .i64 0, .int .i64 0, .slice none 0 0] 114)) w1.heap.size (.slice none 0 0) w2 (.slice A (tabUp rs 0).length k) (tabUp rs 0)) := ⟨A2, k2, by rw [show tabUp rs 0 = [] ++ numW rs.length by simp [tabUp]]; exact H2.out⟩
  have HS1 := Aside0.mk H1.out.size
  clear H2 H1 HS
  go_loopg [15] rs.length (fun k v15 w' => ∃ i : Nat, v15 = .int .i64 i ∧ i + k = rs.length ∧ Aside0 (Below w.heap.size w w') ∧ Aside0 (∃ A k, Nx w1.heap.size (w1.alloc (.cells #[.int .i64 0, .int .i64 0, .slice none 0 0] 114)) w1.heap.size (.slice none 0 0) w' (.slice A (tabUp rs i).length k) (tabUp rs i)))
  case atStart => exact ⟨0, rfl, by omega, HB2, HN2⟩
  case round =>
    clear HN2 HB2
    obtain ⟨i, rfl, hik, HB, HN⟩ := hrel
    cases gk with
    | zero =>
      have hd : decide (i < rs.length) = false := by simp; omega
      have hi : Aside0 (rs.length ≤ i) := ⟨by omega⟩
      obtain ⟨A3, k3, h3⟩ := HN.out
      rw [tabUp_all rs i hi.out] at h3
      have H3 := Aside0.mk h3
      have hl3 := tab_le HT.out HO.out
      clear hik h3 HN
      go_wp2_with (go_at_call 53; refine (data_any w1.heap.size w1.heap.size (.slice A3 (tabW rs).length k3) (tabW rs) _ H3.out.wr (by omega)).mono ?_; rintro e w4 ⟨A4, k4, rfl, h4, h5⟩; have H4 := Aside0.mk (⟨h4, h5⟩ : _ ∧ _); clear h4 h5)
      go_ret2
      exact ⟨A4, k4, rfl, Kd.R_lower H4.out.1 HB.out.size, HB.out.trans (H4.out.2.mono HB.out.size)⟩
    | succ k =>
      have hi : i < rs.length := by omega
      have hi1 : (i : Int) < (rs.length : Int) := by omega
      have hi32 : (i : Int) < 32 := by omega
      obtain ⟨ad, r, rfl, hr, ho, hat⟩ := res_at (Kd.C_below HC.out HB.out) i hi
      have hld := hat.res ho
      obtain ⟨A3, k3, h3⟩ := HN.out
      have hTc := HT.out.code r (List.mem_of_getElem? hr)
      obtain ⟨cn, hcn⟩ : ∃ cn : Nat, r.code = (cn : Int) := ⟨r.code.toNat, by omega⟩
      have hcn2 : cn < 256 := by omega
      obtain ⟨W, hW⟩ : ∃ W, W = wr.alloc (.cells (resC r).toArray 33) := ⟨_, rfl⟩
      have hbk : W.heap[wr.heap.size]? = some (.cells (resC r).toArray 33 (0, 0)) := hW ▸ heap_alloc_new wr _
      have hBW : Below wr.heap.size wr W := hW ▸ below_alloc (Below.refl _ _) _
      have HWr : Aside0 (Wr w1.heap.size W w1.heap.size (.slice A3 (tabUp rs i).length k3) (tabUp rs i)) := ⟨h3.wr.below hBW⟩
      have hoff := h3.wr.off_new (Nat.le_refl wr.heap.size)
      have hlt := blk_lt hbk
      have hul := tabUp_len HO.out i hm
      have HN3 := Aside0.mk h3
      have HBW := Aside0.mk hBW
      have HW := Aside0.mk hW
      have HBK := Aside0.mk hbk
      have HOF := Aside0.mk hoff
      have HLT := Aside0.mk hlt
      have Hr := Aside0.mk hr
      have Ho := Aside0.mk ho
      have HCN := Aside0.mk hcn
      have hal := ho.act.len
      have hrl := ho.root.len
      have HAL := Aside0.mk (⟨hal, hrl⟩ : _ ∧ _)
      clear hW hbk hBW hoff h3 hr ho hat hTc hcn hlt hal hrl HN
      go_upto_region 8 with (first | (refine store33_new rfl rfl _ _ rfl r Ho.out rfl rfl ?_; rw [← HW.out]) | fail)
      go_wp2_with (first
        | (go_at_call 50; (with_reducible refine (raw_any w1.heap.size w1.heap.size (.slice A3 (tabUp rs i).length k3) (tabUp rs i) r.act (some ⟨wr.heap.size, 0, none⟩) 32 32 W HWr.out (C_id Ho.out.act (res_act (At.blk HBK.out))) (by omega)).mono ?_)
           rintro e w4 ⟨rfl, A4, k4, h4⟩
           have HBK4 := Aside0.mk (blk_kept HBK.out h4.kept HOF.out)
           have HOF4 := Aside0.mk (h4.off HLT.out HOF.out)
           have H4 := Aside0.mk h4
           clear h4)
        | (go_at_call 50; (with_reducible refine (raw_any w1.heap.size w1.heap.size (.slice A4 (tabUp rs i ++ r.act).length k4) (tabUp rs i ++ r.act) r.root (some ⟨wr.heap.size, 32, none⟩) 32 32 w4 H4.out.wr (C_id Ho.out.root (by have h := res_root Ho.out (At.blk HBK4.out); rwa [Addr.add_mid] at h)) (by rw [List.length_append]; have := HAL.out.1; omega)).mono ?_)
           rintro e w5 ⟨rfl, A5, k5, h5⟩
           have HBK5 := Aside0.mk (blk_kept HBK4.out h5.kept HOF4.out)
           have q5 : w5.cell? ⟨wr.heap.size, 64, none⟩ = some (.int .i64 cn) := by have h := res_code Ho.out (At.blk HBK5.out); rw [Addr.add_mid, HCN.out] at h; exact h
           have H5 := Aside0.mk h5
           clear h5)
        | (go_at_call 51; (with_reducible refine (fixed1_any w1.heap.size w1.heap.size (.slice A5 (tabUp rs i ++ r.act ++ r.root).length k5) (tabUp rs i ++ r.act ++ r.root) cn w5 H5.out.wr hcn2 (by rw [List.length_append, List.length_append]; have := HAL.out; omega)).mono ?_)
           rintro e w6 ⟨rfl, A6, k6, h6⟩
           have H6 := Aside0.mk h6
           clear h6 q5))
      have e6 : Aside0 (tabUp rs i ++ r.act ++ r.root ++ fixW cn 1 = tabUp rs (i + 1)) := ⟨by rw [tabUp_step Hr.out, resW, HCN.out]; simp [fixW]; omega⟩
      have HN6 : Aside0 (∃ A k, Nx w1.heap.size (w1.alloc (.cells #[.int .i64 0, .int .i64 0, .slice none 0 0] 114)) w1.heap.size (.slice none 0 0) w6 (.slice A (tabUp rs (i + 1)).length k) (tabUp rs (i + 1))) := ⟨A6, k6, by rw [← e6.out]; exact ((((HN3.out.then_below HBW.out).trans H4.out).trans H5.out).trans H6.out)⟩
      have HB6 : Aside0 (Below w.heap.size w w6) := ⟨HB.out.trans (((HBW.out.mono HB.out.size).trans ((H4.out.bel.mono HS1.out))).trans ((H5.out.bel.mono HS1.out).trans (H6.out.bel.mono HS1.out)))⟩
      clear HN3 H4 H5 H6
      go_roundg k
      case measure => omega
      case rel => exact ⟨i + 1, by go_num, by omega, HB6, HN6⟩
end Go.Proofs.YtdekmeanlcpenaaGreatDoor.Codec

namespace Go.Proofs.YtdekmeanlcpenaaGreatDoor.Codec
open Go.RowKit Go.Proofs.YtdekmeanlcpenaaGreatDoorW.PrintWords Go.Proofs.YtdekmeanlcpenaaGreatDoor.Mid
theorem Nx.cell {b0 g : Nat} {W W1 : World} {v v1 : Value} {o : List Int} (h : Nx b0 W g v W1 v1 o) {a : Addr} {u : Value} (hc : W.cell? a = some u) (ha : a.block < b0) : W1.cell? a = some u := by
  rw [World.cell?, h.bel.block _ ha]; exact hc
theorem C_str (W : World) (s : ByteArray) (hs : s.size ≤ 9223372036854775807) : Kd.C (Kd.int .u8) (Lib.bytesWorld W 5 s) (some ⟨W.heap.size, 0, none⟩) s.size (sBytes s) :=
  Kd.C_of_reads (enc := Value.int .u8) (d := (0 : Int)) (h1 := fun _ => rfl) (bytes_reads W 5 s hs)
/-- A row of one's own reads as long as its block lies below. -/
theorem R_low {b b0 : Nat} {W W1 : World} {v : Value} {xs : List Int} (h : Kd.R (Kd.int .u8) 5 W b (fun _ => True) v xs) (hl : ∀ k, v.ownBlock = some k → k < b0) (hb : Below b0 W W1) : Kd.R (Kd.int .u8) 5 W1 b (fun _ => True) v xs := by
  refine Kd.R_mono (Kd.R_move (ok := fun k => some k = v.ownBlock) (Kd.R_tight rfl h) (fun k hk => hb.block k (hl k hk.symm))) (fun _ _ => trivial)
section
variable {b0 g : Nat} {W w0 w : World} {u : Value} {out : List Int}
theorem NxE.below {w1 : World} (h : NxE b0 W g u out w) (hb : Below w.heap.size w w1) : NxE b0 W g u out w1 := by
  obtain ⟨A, k, h⟩ := h
  exact ⟨A, k, h.then_below hb⟩
theorem NxE.bel (h : NxE b0 W g u out w) : Below b0 W w := by
  obtain ⟨A, k, h⟩ := h
  exact h.bel
theorem NxE.size (h : NxE b0 W g u out w) : b0 ≤ w.heap.size := by
  obtain ⟨A, k, h⟩ := h
  exact h.wr.size
theorem NxE.cell (h : NxE b0 W g u out w) {a : Addr} {v : Value} (hc : W.cell? a = some v) (ha : a.block < b0) : w.cell? a = some v := by
  obtain ⟨A, k, h⟩ := h
  exact h.cell hc ha
theorem NxE.start (w : World) : NxE w.heap.size (w.alloc (.cells #[.int .i64 0, .int .i64 0, .slice none 0 0] 114)) w.heap.size (.slice none 0 0) [] (w.alloc (.cells #[.int .i64 0, .int .i64 0, .slice none 0 0] 114)) :=
  ⟨none, 0, Wr.start w, Kept.refl _ _, .inl rfl, Below.refl _ _⟩
theorem sx_fixed1 (h : NxE b0 W g u out w) (v : Nat) (hv : v < 256) (hl : out.length ≤ 900000000) : Calls Tryz.prog 51 #[.pointer (some ⟨g, 0, none⟩), .int .i64 v, .int .i64 1] w fun e w' => e = .returned (.tuple #[]) ∧ NxE b0 W g u (out ++ fixW v 1) w' := by
  obtain ⟨A, k, h⟩ := h
  exact (fixed1_any b0 g _ out v w h.wr hv hl).mono fun e w' ⟨he, A', k', h'⟩ => ⟨he, A', k', h.trans h'⟩
theorem sx_mark (h : NxE b0 W g u out w) (hl : out.length ≤ 900000000) : Calls Tryz.prog 51 #[.pointer (some ⟨g, 0, none⟩), .int .i64 74, .int .i64 1] w fun e w' => e = .returned (.tuple #[]) ∧ NxE b0 W g u (out ++ fixW 74 1) w' := sx_fixed1 h 74 (by decide) hl
theorem sx_fixed4 (h : NxE b0 W g u out w) (v : Nat) (hv : v < 4294967296) (hl : out.length ≤ 900000000) : Calls Tryz.prog 51 #[.pointer (some ⟨g, 0, none⟩), .int .i64 v, .int .i64 4] w fun e w' => e = .returned (.tuple #[]) ∧ NxE b0 W g u (out ++ fixW v 4) w' := by
  obtain ⟨A, k, h⟩ := h
  exact (fixed4_any b0 g _ out v w h.wr hv hl).mono fun e w' ⟨he, A', k', h'⟩ => ⟨he, A', k', h.trans h'⟩
theorem sx_number (h : NxE b0 W g u out w) (v : Nat) (hv : v ≤ 2147483647) (hl : out.length ≤ 900000000) : Calls Tryz.prog 98 #[.pointer (some ⟨g, 0, none⟩), .int .i64 v] w fun e w' => e = .returned (.tuple #[]) ∧ NxE b0 W g u (out ++ numW v) w' := by
  obtain ⟨A, k, h⟩ := h
  exact (number_any b0 g _ out v w h.wr hv hl).mono fun e w' ⟨he, A', k', h'⟩ => ⟨he, A', k', h.trans h'⟩
theorem sx_raw (h : NxE b0 W g u out w) (A : Option Addr) (m c : Nat) (xs : List Int) (hx : Kd.C (Kd.int .u8) w A m xs) (hl : out.length + m ≤ 1000000000) : Calls Tryz.prog 50 #[.pointer (some ⟨g, 0, none⟩), .slice A m c] w fun e w' => e = .returned (.tuple #[]) ∧ NxE b0 W g u (out ++ xs) w' := by
  obtain ⟨A1, k, h⟩ := h
  exact (raw_any b0 g _ out xs A m c w h.wr hx hl).mono fun e w' ⟨he, A', k', h'⟩ => ⟨he, A', k', h.trans h'⟩
theorem sx_text_new (h : NxE b0 W g u out w0) (hb : Below w0.heap.size w0 w) (A : Option Addr) (m c : Nat) (xs : List Int) (hx : Kd.C (Kd.int .u8) w A m xs) (hA : ∀ ad, A = some ad → w0.heap.size ≤ ad.block) (hm : m ≤ 1000000) (hl : out.length ≤ 800000000) :
    Calls Tryz.prog 97 #[.pointer (some ⟨g, 0, none⟩), .slice A m c] w fun e w' => e = .returned (.tuple #[]) ∧ NxE b0 W g u (out ++ txtW xs) w' := by
  obtain ⟨A1, k, h⟩ := h
  have h2 := h.then_below hb
  exact (text_any b0 g _ out xs A m c w h2.wr hx (fun ad he _ => h.wr.off_new (hA ad he)) hm hl).mono fun e w' ⟨he, A', k', h'⟩ => ⟨he, A', k', h2.trans h'⟩
theorem sx_text_old (h : NxE b0 W g u out w) (A : Option Addr) (m c : Nat) (xs : List Int) (hx : Kd.C (Kd.int .u8) w A m xs) (hA : ∀ ad, A = some ad → ad.block < b0) (hm : m ≤ 1000000) (hl : out.length ≤ 800000000) :
    Calls Tryz.prog 97 #[.pointer (some ⟨g, 0, none⟩), .slice A m c] w fun e w' => e = .returned (.tuple #[]) ∧ NxE b0 W g u (out ++ txtW xs) w' := by
  obtain ⟨A1, k, h⟩ := h
  exact (text_any b0 g _ out xs A m c w h.wr hx (fun ad he _ => h.wr.off_old (hA ad he)) hm hl).mono fun e w' ⟨he, A', k', h'⟩ => ⟨he, A', k', h.trans h'⟩
theorem sx_data (h : NxE b0 W g u out w) (hl : out.length ≤ 1000000000) :
    Calls Tryz.prog 53 #[.pointer (some ⟨g, 0, none⟩)] w fun e w' => ∃ A k, e = .returned (.tuple #[.slice A out.length k, .int .i64 0]) ∧ Kd.R (Kd.int .u8) 5 w' w.heap.size (fun _ => True) (.slice A out.length k) out ∧ Below w.heap.size w w' := by
  obtain ⟨A1, k, h⟩ := h
  exact data_any b0 g _ out w h.wr hl
end
/-- The address of a row of one's own lies where its block does. -/
theorem row_block {W : World} {b : Nat} {A : Option Addr} {n k : Nat} {xs : List Int} (h : Kd.R (Kd.int .u8) 5 W b (fun _ => True) (.slice A n k) xs) : ∀ ad, A = some ad → ad.block < W.heap.size := fun ad he => by
  subst he
  exact Kd.R_lt h ad.block rfl
/-- A journal's form, so far: behind so many ids. -/
def bodyUp (j : Jn) (i : Nat) : List Int := fixW 74 1 ++ txtW (sBytes j.name) ++ fixW j.ent.toNat 4 ++ fixW j.idx.toNat 4 ++ txtW (tabW j.res) ++ numW j.need.length ++ (j.need.take i).flatten
theorem bodyUp_step {j : Jn} {i : Nat} {x : List Int} (h : j.need[i]? = some x) : bodyUp j (i + 1) = bodyUp j i ++ x := by
  rw [bodyUp, bodyUp, List.take_add_one, h, List.flatten_append, ← List.append_assoc]; simp
theorem bodyUp_all (j : Jn) (i : Nat) (h : j.need.length ≤ i) : bodyUp j i ++ txtW (tabW j.tab) = bodyW j := by
  rw [bodyUp, List.take_of_length_le h, bodyW]; simp only [List.append_assoc]
theorem bodyUp_le {j : Jn} (V : JnV j) (K : JnOk j) (i : Nat) : (bodyUp j i).length ≤ 8000 := by
  have h1 := txt_le (l := sBytes j.name) (m := 112) (by rw [sBytes_length]; exact V.name.most) (by omega)
  have h2 := txt_le (tab_le V.res K.res) (by omega)
  have h4 := numW_max (v := j.need.length) (by have := V.most; omega)
  have h5 := ids_length (ids := j.need.take i) (fun x hx => K.need x (List.mem_of_mem_take hx))
  have h6 := V.most
  rw [List.length_take] at h5
  simp only [bodyUp, List.length_append, fixW_length]
  omega
attribute [local go_sem ↓ high] load33_eq load29_eq
attribute [local simp] rowOf_drew rowOf_drewN
attribute [local go_sem high] load33_row load29_row rowOf_drew rowOf_drewN
set_option maxHeartbeats 4000000
set_option maxRecDepth 100000
theorem written_any (j : Jn) (A1 : Option Addr) (c1 : Nat) (A2 : Option Addr) (c2 : Nat) (A3 : Option Addr) (c3 : Nat) (w : World) (hJ : JAt w j A1 c1 A2 c2 A3 c3) (V : JnV j) :
    Calls Tryz.prog 49 #[.agg (jC j A1 c1 A2 c2 A3 c3).toArray] w fun e w' => ∃ A k, e = .returned (.slice A (bodyW j).length k) ∧ Kd.R (Kd.int .u8) 5 w' w.heap.size (fun _ => True) (.slice A (bodyW j).length k) (bodyW j) ∧ Below w.heap.size w w' := by
  obtain ⟨W, hW⟩ : ∃ W, W = w.alloc (.cells (jC j A1 c1 A2 c2 A3 c3).toArray 60) := ⟨_, rfl⟩
  have hbk : W.heap[w.heap.size]? = some (.cells (jC j A1 c1 A2 c2 A3 c3).toArray 60 (0, 0)) := hW ▸ heap_alloc_new w _
  have hBW : Below w.heap.size w W := hW ▸ below_alloc (Below.refl _ _) _
  have c3' : W.cell? ⟨w.heap.size, 3, none⟩ = some (.slice A1 j.res.length c1) := (blk_cell hbk _).trans rfl
  have HW := Aside0.mk hW
  have HBW := Aside0.mk hBW
  have HBK := Aside0.mk hbk
  have HJ := Aside0.mk (hJ.below hBW)
  have HV := Aside0.mk V
  have hcv : ∀ u, (convert 9 47 (.string j.name)).run Tryz.prog u = .ok (.slice (some ⟨u.heap.size, 0, none⟩) j.name.size (grownCap u j.name.size 0 5)) (Lib.bytesWorld u 5 j.name) := fun u => print_bytes (u := .string) 9 47 5 (by kernel_rfl) Tryz.underlying47 Tryz.underlying5 j.name u
  clear hW hBW hbk hJ V
  go_enter Tryz.func49, Tryz.ntmps49
  go_upto_region 1 with (fail)
  rw [← HW.out]
  go_upto_region 4 with (first
    | (have X := HB1; go_at_call 96; refine (tab_yes A3 c3 j.tab _ (Kd.C_below HJ.out.r3 HB1.out) HJ.out.l3 HJ.out.ok.tab HV.out.tab).mono ?_
       rintro e w2 ⟨B2, k2, rfl, hr2, hb2⟩
       have H2 := Aside0.mk (⟨Kd.R_below HR1.out hb2, hr2⟩ : _ ∧ _)
       have HB2 := Aside0.mk (below_step HB1.out hb2)
       have HS := Aside0.mk (Wr.start w2)
       clear hr2 hb2)
    | (go_at_call 96; refine (tab_yes A1 c1 j.res _ HJ.out.r1 HJ.out.l1 HJ.out.ok.res HV.out.res).mono ?_
       rintro e w1 ⟨B1, k1, rfl, hr1, hb1⟩
       have s5 : w1.cell? ⟨w.heap.size, 5, none⟩ = some (.slice A3 j.tab.length c3) := pw_cell_below hb1 ((blk_cell HBK.out _).trans rfl)
       have HR1 := Aside0.mk hr1
       have HB1 := Aside0.mk hb1
       clear hr1 hb1)
    | fail)
  obtain ⟨b0, hb0⟩ : ∃ b0, w2.heap.size = b0 := ⟨_, rfl⟩
  have HX : Aside0 (NxE b0 (w2.alloc (.cells #[.int .i64 0, .int .i64 0, .slice none 0 0] 114)) b0 (.slice none 0 0) [] (w2.alloc (.cells #[.int .i64 0, .int .i64 0, .slice none 0 0] 114))) := ⟨by have h := NxE.start w2; rw [hb0] at h; exact h⟩
  rw [hb0]
  have HB3 : Aside0 (Below W.heap.size W (w2.alloc (.cells #[.int .i64 0, .int .i64 0, .slice none 0 0] 114))) := ⟨below_alloc HB2.out _⟩
  have HR : Aside0 (Kd.R (Kd.int .u8) 5 (w2.alloc (.cells #[.int .i64 0, .int .i64 0, .slice none 0 0] 114)) 0 (fun _ => True) (.slice B1 (tabW j.res).length k1) (tabW j.res) ∧ Kd.R (Kd.int .u8) 5 (w2.alloc (.cells #[.int .i64 0, .int .i64 0, .slice none 0 0] 114)) 0 (fun _ => True) (.slice B2 (tabW j.tab).length k2) (tabW j.tab)) :=
    ⟨Kd.R_lower (Kd.R_alloc H2.out.1 _) (Nat.zero_le _), Kd.R_lower (Kd.R_alloc H2.out.2 _) (Nat.zero_le _)⟩
  have HA : Aside0 ((∀ ad, B1 = some ad → ad.block < b0) ∧ (∀ ad, B2 = some ad → ad.block < b0)) := ⟨fun ad he => hb0 ▸ row_block H2.out.1 ad he, fun ad he => hb0 ▸ row_block H2.out.2 ad he⟩
  have HO : Aside0 ((∀ k, (Value.slice B1 (tabW j.res).length k1).ownBlock = some k → k < b0) ∧ (∀ k, (Value.slice B2 (tabW j.tab).length k2).ownBlock = some k → k < b0)) := ⟨fun k hk => hb0 ▸ Kd.R_lt H2.out.1 k hk, fun k hk => hb0 ▸ Kd.R_lt H2.out.2 k hk⟩
  have hg0 : w.heap.size < b0 := by have h1 := blk_lt HBK.out; have h2 := HB2.out.size; omega
  have Hb0 : Aside0 (W.heap.size ≤ b0 ∧ w2.heap.size = b0) := ⟨by rw [← hb0]; exact HB2.out.size, hb0⟩
  clear HS H2 HR1 HB1 HB2 s5 hb0 X
  generalize w2.alloc (.cells #[.int .i64 0, .int .i64 0, .slice none 0 0] 114) = W3 at HX HB3 HR ⊢
  have d0 : W3.cell? ⟨w.heap.size, 0, none⟩ = some (.string j.name) := pw_cell_below HB3.out ((blk_cell HBK.out _).trans rfl)
  have d1 : W3.cell? ⟨w.heap.size, 1, none⟩ = some (.int .i64 j.ent) := pw_cell_below HB3.out ((blk_cell HBK.out _).trans rfl)
  have d2 : W3.cell? ⟨w.heap.size, 2, none⟩ = some (.int .i64 j.idx) := pw_cell_below HB3.out ((blk_cell HBK.out _).trans rfl)
  have d4 : W3.cell? ⟨w.heap.size, 4, none⟩ = some (.slice A2 j.need.length c2) := pw_cell_below HB3.out ((blk_cell HBK.out _).trans rfl)
  obtain ⟨en, hen⟩ : ∃ en : Nat, j.ent = (en : Int) := ⟨j.ent.toNat, by have := HV.out.ent; omega⟩
  obtain ⟨ix, hix⟩ : ∃ ix : Nat, j.idx = (ix : Int) := ⟨j.idx.toNat, by have := HV.out.idx; omega⟩
  have HE : Aside0 (en < 4294967296 ∧ ix < 4294967296 ∧ j.ent.toNat = en ∧ j.idx.toNat = ix) := ⟨by have := HV.out.ent; omega, by have := HV.out.idx; omega, by omega, by omega⟩
  rw [hen] at d1
  rw [hix] at d2
  have hn1 := HV.out.name.most
  have HN1 : Aside0 ((sBytes j.name).length = j.name.size) := ⟨sBytes_length _⟩
  have D0 := Aside0.mk d0
  have D1 := Aside0.mk d1
  have D2 := Aside0.mk d2
  have D4 := Aside0.mk d4
  clear d0 d1 d2 d4 hen hix
  have hn2 := HV.out.most
  have HT : Aside0 ((tabW j.res).length ≤ 2081 ∧ (tabW j.tab).length ≤ 2081) := ⟨tab_le HV.out.res HJ.out.ok.res, tab_le HV.out.tab HJ.out.ok.tab⟩
  go_wp2_with (first
    | (go_at_call 98; (with_reducible refine (sx_number H8.out j.need.length (by omega) (by have := L8.out; omega)).mono ?_)
       rintro e w9 ⟨rfl, h9⟩
       have q9 := h9.cell D4.out hg0
       have H9 := Aside0.mk h9
       clear h9)
    | (have X := H7; go_at_call 97; (with_reducible refine (sx_text_old H7.out B1 (tabW j.res).length k1 (tabW j.res) (Kd.R_reads' (R_low HR.out.1 HO.out.1 H7.out.bel)).2.2 HA.out.1 (by have := HT.out.1; omega) (by have := L7.out; omega)).mono ?_)
       rintro e w8 ⟨rfl, h8⟩
       have q8 := h8.cell D4.out hg0
       have H8 := Aside0.mk h8
       have L8 : Aside0 (([] ++ fixW 74 1 ++ txtW (sBytes j.name) ++ fixW en 4 ++ fixW ix 4 ++ txtW (tabW j.res)).length ≤ 3000) := ⟨by rw [List.length_append]; have h1 := L7.out; have h2 := txt_le (l := tabW j.res) HT.out.1 (by omega); omega⟩
       clear h8)
    | (have X := H6; go_at_call 51; (with_reducible refine (sx_fixed4 H6.out ix HE.out.2.1 (by have := L6.out; omega)).mono ?_)
       rintro e w7 ⟨rfl, h7⟩
       have H7 := Aside0.mk h7
       have L7 : Aside0 (([] ++ fixW 74 1 ++ txtW (sBytes j.name) ++ fixW en 4 ++ fixW ix 4).length ≤ 200) := ⟨by rw [List.length_append, fixW_length]; have := L6.out; omega⟩
       clear h7)
    | (have X := H5; go_at_call 51; (with_reducible refine (sx_fixed4 H5.out en HE.out.1 (by have := L5.out; omega)).mono ?_)
       rintro e w6 ⟨rfl, h6⟩
       have q2 := h6.cell D2.out hg0
       have H6 := Aside0.mk h6
       have L6 : Aside0 (([] ++ fixW 74 1 ++ txtW (sBytes j.name) ++ fixW en 4).length ≤ 180) := ⟨by rw [List.length_append, fixW_length]; have := L5.out; omega⟩
       clear h6)
    | (go_at_call 97; (with_reducible refine (sx_text_new H4.out (bytes_below (Below.refl _ _) (Nat.le_refl _) 5 j.name) (some ⟨w4.heap.size, 0, none⟩) j.name.size _ (sBytes j.name) (C_str w4 j.name (by omega)) (fun ad he => by cases he; exact Nat.le_refl _) (by omega) (by have := L4.out; omega)).mono ?_)
       rintro e w5 ⟨rfl, h5⟩
       have q1 := h5.cell D1.out hg0
       have H5 := Aside0.mk h5
       have L5 : Aside0 (([] ++ fixW 74 1 ++ txtW (sBytes j.name)).length ≤ 170) := ⟨by rw [List.length_append]; have h1 := L4.out; have h2 := txt_le (l := sBytes j.name) (m := 112) (by rw [HN1.out]; exact hn1) (by omega); omega⟩
       clear h5)
    | (go_at_call 51; (with_reducible refine (sx_mark HX.out (by decide)).mono ?_)
       rintro e w4 ⟨rfl, h4⟩
       have q0 := h4.cell D0.out hg0
       have H4 := Aside0.mk h4
       have L4 : Aside0 (([] ++ fixW 74 1).length ≤ 1) := ⟨by simp [fixW_length]⟩
       clear h4)
    | fail)
  have HN9 : Aside0 (NxE b0 W3 b0 (.slice none 0 0) (bodyUp j 0) w9) := ⟨by
    have e : bodyUp j 0 = [] ++ fixW 74 1 ++ txtW (sBytes j.name) ++ fixW en 4 ++ fixW ix 4 ++ txtW (tabW j.res) ++ numW j.need.length := by
      rw [bodyUp, HE.out.2.2.1, HE.out.2.2.2]; simp
    rw [e]; exact H9.out⟩
  clear H4 H5 H6 H7 H8 H9 HX q0 q1 q2 q8 q9 L4 L5 L6 L7 L8 X
  go_loopg [44] j.need.length (fun k v44 w' => ∃ i : Nat, v44 = .int .i64 i ∧ i + k = j.need.length ∧ Aside0 (NxE b0 W3 b0 (.slice none 0 0) (bodyUp j i) w'))
  case atStart => exact ⟨0, rfl, by omega, HN9⟩
  case round =>
    clear HN9
    obtain ⟨i, rfl, hik, HN⟩ := hrel
    have hbl := bodyUp_le HV.out HJ.out.ok i
    cases gk with
    | zero =>
      have hd : decide (i < j.need.length) = false := by simp; omega
      have Hi : Aside0 (j.need.length ≤ i) := ⟨by omega⟩
      have hbl2 := body_le HV.out HJ.out.ok
      clear hik
      go_wp2_with (first
        | (go_at_call 97; (with_reducible refine (sx_text_old HN.out B2 (tabW j.tab).length k2 (tabW j.tab) (Kd.R_reads' (R_low HR.out.2 HO.out.2 HN.out.bel)).2.2 HA.out.2 (by have := HT.out.2; omega) (by omega)).mono ?_)
           rintro e w10 ⟨rfl, h10⟩
           rw [bodyUp_all j i Hi.out] at h10
           have H10 := Aside0.mk h10
           clear h10)
        | (go_at_call 53; (with_reducible refine (sx_data H10.out (by omega)).mono ?_); rintro e w11 ⟨A4, k4, rfl, h4, h5⟩; have H11 := Aside0.mk (⟨h4, h5⟩ : _ ∧ _); clear h4 h5)
        | fail)
      go_ret
      have hb : Below W.heap.size W w10 := HB3.out.trans (H10.out.bel.mono Hb0.out.1)
      exact ⟨A4, k4, rfl, Kd.R_lower H11.out.1 (Nat.le_trans HBW.out.size hb.size), HBW.out.trans ((below_step hb H11.out.2).mono HBW.out.size)⟩
    | succ k =>
      have hi : i < j.need.length := by omega
      have hi1 : (i : Int) < (j.need.length : Int) := by omega
      have hb : Below W.heap.size W wr := HB3.out.trans (HN.out.bel.mono Hb0.out.1)
      obtain ⟨ad, x, rfl, hx, hxo, hxa⟩ := id_at (Kd.C_below HJ.out.r2 hb) i hi
      have hld := hxa.id hxo
      obtain ⟨V4, hV4⟩ : ∃ V4, V4 = wr.alloc (.cells (u8s x).toArray 29) := ⟨_, rfl⟩
      have hbk : V4.heap[wr.heap.size]? = some (.cells (u8s x).toArray 29 (0, 0)) := hV4 ▸ heap_alloc_new wr _
      have HV4 := Aside0.mk hV4
      have HN4 : Aside0 (NxE b0 W3 b0 (.slice none 0 0) (bodyUp j i) V4) := ⟨HN.out.below (hV4 ▸ below_alloc (Below.refl _ _) _)⟩
      have HK := Aside0.mk hbk
      have Hx := Aside0.mk (⟨hx, hxo⟩ : _ ∧ _)
      clear hV4 hbk hx hxo hxa hb
      go_wp2_with (first
        | (refine store29_new rfl rfl _ _ rfl _ (by rfl) x Hx.out.2 rfl rfl ?_; rw [← HV4.out])
        | (go_at_call 50; (with_reducible refine (sx_raw HN4.out (some ⟨wr.heap.size, 0, none⟩) 32 32 x (C_id Hx.out.2 (At.blk HK.out)) (by omega)).mono ?_)
           rintro e w10 ⟨rfl, h10⟩
           rw [← bodyUp_step Hx.out.1] at h10
           have H10 := Aside0.mk h10
           clear h10)
        | fail)
      clear HN HN4
      go_roundg k
      case measure => omega
      case rel => exact ⟨i + 1, by go_num, by omega, H10⟩
end Go.Proofs.YtdekmeanlcpenaaGreatDoor.Codec

namespace Go.Proofs.YtdekmeanlcpenaaGreatDoor.Codec
open Go.RowKit Go.Proofs.YtdekmeanlcpenaaGreatDoorW.PrintWords Go.Proofs.YtdekmeanlcpenaaGreatDoor.Mid Go.Proofs.YtdekmeanlcpenaaGreatDoor.Block
theorem info60 : (Tryz.prog.info? 60).map (·.size) = some 6 := by kernel_rfl
theorem load60_eq (x : Value) : Instr.loadAt 60 x = ldRow 60 x := rfl
theorem load60_row (w : World) (p : Addr) : (ldRow 60 (.pointer (some p))).run Tryz.prog w = match rowOf w p 6 with
    | some cs => .ok (.agg cs.toArray) w
    | none => (loadVar 60 p).run Tryz.prog w := by
  unfold ldRow
  cases h : rowOf w p 6 with
  | none => simp only [Instr.loadAt, Instr.sureAddr, Sem.run_bind, Sem.run_pure, Result.andThen_ok]
  | some cs =>
    obtain ⟨h1, h2⟩ := rowOf_eq h
    exact Mid.run_load w p 60 cs _ h1 Tryz.underlying60 rfl (by rw [h2]; exact info60)
theorem jrow {w : World} {g : Nat} {j : Jn} {A1 A2 A3 : Option Addr} {c1 c2 c3 : Nat} (h : w.heap[g]? = some (.cells (jC j A1 c1 A2 c2 A3 c3).toArray 60 (0, 0))) : rowOf w ⟨g, 0, none⟩ 6 = some (jC j A1 c1 A2 c2 A3 c3) := (At.blk h).row rfl
def opEnc : ByteArray := { data := #[105, 110, 116, 97, 107, 101, 46, 101, 110, 99, 111, 100, 101] }
attribute [local go_sem ↓ high] load33_eq load29_eq load60_eq build69_eq build29_eq
attribute [local simp] rowOf_drew rowOf_drewN
attribute [local go_sem high] load33_row load29_row load60_row rowOf_drew rowOf_drewN bld29_none
set_option maxHeartbeats 4000000
set_option maxRecDepth 100000
section
variable (j : Jn) (A1 : Option Addr) (c1 : Nat) (A2 : Option Addr) (c2 : Nat) (A3 : Option Addr) (c3 : Nat) (w : World)
theorem enc_no (hJ : JAt w j A1 c1 A2 c2 A3 c3) (V : ¬ JnV j) :
    Calls Tryz.prog 19 #[.agg (jC j A1 c1 A2 c2 A3 c3).toArray] w fun e w' => (∃ g, e = .returned (.tuple #[.slice none 0 0, .iface 79 (.pointer (some ⟨g, 0, none⟩))]) ∧ w.heap.size ≤ g ∧ w'.heap[g]? = some (.cells (faultC opEnc .empty z32 (errno 161)).toArray 82 (0, 0))) ∧ Below w.heap.size w w' := by
  obtain ⟨W, hW⟩ : ∃ W, W = w.alloc (.cells (jC j A1 c1 A2 c2 A3 c3).toArray 60) := ⟨_, rfl⟩
  have hbk : W.heap[w.heap.size]? = some (.cells (jC j A1 c1 A2 c2 A3 c3).toArray 60 (0, 0)) := hW ▸ heap_alloc_new w _
  have hBW : Below w.heap.size w W := hW ▸ below_alloc (Below.refl _ _) _
  have hr := jrow hbk
  have HW := Aside0.mk hW
  have HBW := Aside0.mk hBW
  have HJ := Aside0.mk (hJ.below hBW)
  have HV := Aside0.mk V
  have hbb := fun u => bld69_two u opEnc (errno 161) rfl
  unfold opEnc errno at hbb
  clear hW hBW hbk hJ V
  go_enter Tryz.func19, Tryz.ntmps19
  go_upto_region 1 with (fail)
  rw [← HW.out]
  go_wp2_with (first
    | (go_at_call 48; refine (isJournal_any j A1 c1 A2 c2 A3 c3 _ HJ.out).mono ?_; rintro e w1 ⟨hR, hb⟩; have he := RetB.is_false hR HV.out; subst he; have HB1 := Aside0.mk hb; clear hb hR)
    | fail)
  go_ret2
  exact ⟨⟨w1.heap.size, rfl, Nat.le_trans HBW.out.size HB1.out.size, heap_alloc_new w1 _⟩, HBW.out.trans ((below_alloc HB1.out _).mono HBW.out.size)⟩
theorem enc_yes (hJ : JAt w j A1 c1 A2 c2 A3 c3) (V : JnV j) :
    Calls Tryz.prog 19 #[.agg (jC j A1 c1 A2 c2 A3 c3).toArray] w fun e w' => ∃ A k, e = .returned (.tuple #[.slice A (encW j).length k, .nilIface]) ∧ Kd.R (Kd.int .u8) 5 w' w.heap.size (fun _ => True) (.slice A (encW j).length k) (encW j) ∧ Below w.heap.size w w' := by
  obtain ⟨W, hW⟩ : ∃ W, W = w.alloc (.cells (jC j A1 c1 A2 c2 A3 c3).toArray 60) := ⟨_, rfl⟩
  have hbk : W.heap[w.heap.size]? = some (.cells (jC j A1 c1 A2 c2 A3 c3).toArray 60 (0, 0)) := hW ▸ heap_alloc_new w _
  have hBW : Below w.heap.size w W := hW ▸ below_alloc (Below.refl _ _) _
  have hr := jrow hbk
  have HW := Aside0.mk hW
  have HBW := Aside0.mk hBW
  have HBK := Aside0.mk hbk
  have HJ := Aside0.mk (hJ.below hBW)
  have HV := Aside0.mk V
  have hbl := body_le V hJ.ok
  have hby := Aside0.mk (body_byt V hJ.ok)
  have hsl := sumS_lt (bodyW j)
  have HSL := Aside0.mk hsl
  clear hW hBW hbk hJ V hsl
  go_enter Tryz.func19, Tryz.ntmps19
  go_upto_region 1 with (fail)
  rw [← HW.out]
  go_wp2_with (first
    | (go_at_call 48; refine (isJournal_any j A1 c1 A2 c2 A3 c3 _ HJ.out).mono ?_; rintro e w1 ⟨hR, hb⟩; have he := RetB.is_true hR HV.out; subst he; have hr1 := jrow (blk_below HBK.out hb); have HB1 := Aside0.mk hb; clear hb hR)
    | (go_at_call 49; refine (written_any j A1 c1 A2 c2 A3 c3 _ (HJ.out.below HB1.out) HV.out).mono ?_
       rintro e w2 ⟨A, k, rfl, hR, hb⟩
       have HR2 := Aside0.mk hR
       have HB2 := Aside0.mk (below_step HB1.out hb)
       have HX := Aside0.mk (NxE.start w2)
       clear hR hb)
    | (go_at_call 50; (with_reducible refine (sx_raw HX.out A (bodyW j).length k (bodyW j) (Kd.R_reads' (Kd.R_alloc HR2.out _)).2.2 (by simp; omega)).mono ?_)
       rintro e w3 ⟨rfl, h3⟩
       have HC3 : Aside0 (Kd.C (Kd.int .u8) w3 A (bodyW j).length (bodyW j)) := ⟨(Kd.R_reads' (R_low (Kd.R_alloc HR2.out _) (Kd.R_lt HR2.out) h3.bel)).2.2⟩
       have H3 := Aside0.mk h3
       clear h3)
    | (go_at_call 52; refine (sum_any A k (bodyW j) _ HC3.out hby.out (by omega)).mono ?_; rintro e w4 ⟨rfl, hb⟩; have H4 := Aside0.mk (H3.out.below hb); clear hb)
    | (go_at_call 51; (with_reducible refine (sx_fixed4 H4.out (sumS (bodyW j)) HSL.out (by simp; omega)).mono ?_); rintro e w5 ⟨rfl, h5⟩; have H5 := Aside0.mk h5; clear h5)
    | (go_at_call 53; (with_reducible refine (sx_data H5.out (by simp [fixW_length]; omega)).mono ?_); rintro e w6 ⟨A6, k6, rfl, h4, h5⟩; have H6 := Aside0.mk (⟨h4, h5⟩ : _ ∧ _); clear h4 h5)
    | fail)
  go_ret2
  have hb : Below W.heap.size W w5 := (below_alloc HB2.out (.cells #[.int .i64 0, .int .i64 0, .slice none 0 0] 114)).trans (H5.out.bel.mono HB2.out.size)
  exact ⟨A6, k6, by rw [encW, List.length_append]; rfl, Kd.R_lower H6.out.1 (Nat.le_trans HBW.out.size hb.size), HBW.out.trans ((below_step hb H6.out.2).mono HBW.out.size)⟩
end
end Go.Proofs.YtdekmeanlcpenaaGreatDoor.Codec

namespace Go.Proofs.YtdekmeanlcpenaaGreatDoor.Codec
open Go.RowKit Go.Proofs.YtdekmeanlcpenaaGreatDoorW.PrintWords Go.Proofs.YtdekmeanlcpenaaGreatDoor.Mid Go.Proofs.YtdekmeanlcpenaaGreatDoor.Pick Go.Proofs.YtdekmeanlcpenaaGreatDoor.Block
set_option maxHeartbeats 4000000
set_option maxRecDepth 100000
section
variable {P : Program} {ops : Array Oper} {Q : Exit → Act → World → Prop} {md : Region.Mode} {S S' : World → Prop}
theorem wpAnyH_weak (hS : ∀ w, S' w → S w) : ∀ (fuel : Nat) (listed : Array Bool) (a : Act) (w : World), wpAnyH P md ops Q S' fuel listed a w → wpAnyH P md ops Q S fuel listed a w
  | 0, _, _, _, h => h
  | fuel + 1, _, _, _, h => ⟨h.1, fun i hi => wpOp_mono (fun a' w' h' => ⟨hS w' h'.1, wpAnyH_weak hS fuel _ a' w' h'.2⟩) (h.2 i hi)⟩
/-- What comes behind the region is shown once, for all its orders. -/
theorem wpAnyH_rest {G : Nat → Option Addr → Nat → World → Prop} {A : Nat → Option Addr → Nat → Act} {fuel : Nat} {listed : Array Bool} {a : Act} {w : World} (h : (∀ q x c w, G q x c w → Q .normal (A q x c) w) → wpAnyH P md ops Q S fuel listed a w)
    (rest : ∀ q x c w, G q x c w → Q .normal (A q x c) w) : wpAnyH P md ops Q S fuel listed a w := h rest
/-- Two may come up. -/
theorem heldTwo {i j : Nat} {o o' : Oper} {fuel : Nat} {listed : Array Bool} {a : Act} {w : World} (hr : Region.ready md ops listed = [i, j]) (hi : ops[i]? = some o) (hj : ops[j]? = some o') (hw : Region.wanted o (yielded ops a.tmps) = true) (hw' : Region.wanted o' (yielded ops a.tmps) = true)
    (h : o.wp P a w (fun a' w' => S w' ∧ wpAnyH P md ops Q S fuel (listed.setIfInBounds i true) a' w') Q) (h' : o'.wp P a w (fun a' w' => S w' ∧ wpAnyH P md ops Q S fuel (listed.setIfInBounds j true) a' w') Q) : wpAnyH P md ops Q S (fuel + 1) listed a w := by
  refine ⟨fun h0 => (by rw [hr] at h0; cases h0), fun k hk => ?_⟩
  rw [hr] at hk
  rcases List.mem_cons.1 hk with rfl | hk
  · unfold wpOp
    simp only [hi, hw, if_true]
    exact .inl h
  · rw [List.mem_singleton] at hk
    subst hk
    unfold wpOp
    simp only [hj, hw', if_true]
    exact .inl h'
end
theorem R_lowE {α : Type} {d : Kd α} {e : TypeId} {W W1 : World} {b b0 : Nat} {v : Value} {xs : List α} (hE : d.E = []) (h : d.R e W b (fun _ => True) v xs) (hl : ∀ k, v.ownBlock = some k → k < b0) (hb : Below b0 W W1) : d.R e W1 b (fun _ => True) v xs :=
  Kd.R_mono (Kd.R_move (ok := fun k => some k = v.ownBlock) (Kd.R_tight hE h) (fun k hk => hb.block k (hl k hk.symm))) (fun _ _ => trivial)
theorem text_data (s : RS) (n : Nat) : (s.text n).2.data = s.data := by rw [RS.text]; split <;> (try split) <;> (try split) <;> (try split) <;> rfl
theorem num_data (s : RS) : s.num.2.data = s.data := by rw [RS.num]; split <;> (try split) <;> rfl
theorem und9 : Tryz.prog.underlying 9 = some .string := by kernel_rfl
theorem text_byt {s : RS} (h : Byt s.data) (n : Nat) : Byt (s.text n).1 ∧ (s.text n).1.length ≤ n := by
  rw [RS.text]
  split
  · exact ⟨byt_nil, by simp⟩
  · split
    · exact ⟨byt_nil, by simp⟩
    · split
      · exact ⟨byt_nil, by simp⟩
      · split
        · exact ⟨byt_nil, by simp⟩
        · exact ⟨byt_take (byt_drop (byt_drop h _) _) _, by rw [List.length_take]; omega⟩
theorem parse_yes (W : World) (A : Option Addr) (c : Nat) (l : List Int) (hC : Kd.C (Kd.int .u8) W A l.length l) (hb : Byt l) (hl : l.length ≤ 1000000000000) {rs : List Res} (hP : Parsed l rs) :
    Calls Tryz.prog 111 #[.slice A l.length c] W fun e w' => ∃ A1 c1, e = .returned (.tuple #[.slice A1 rs.length c1, .int .i64 0]) ∧ Kd.R resK 33 w' W.heap.size (fun _ => True) (.slice A1 rs.length c1) rs ∧ (∀ r ∈ rs, ResOk r) ∧ Below W.heap.size W w' :=
  (parse_any W A c l hC hb hl).mono fun e w' h => by
    cases h with
    | yes qs A1 c1 hQ ok he hR hB =>
      obtain rfl := hP.one hQ
      exact ⟨A1, c1, he, hR, ok, hB⟩
    | no hn _ _ => exact absurd hP (hn rs)
theorem parse_no (W : World) (A : Option Addr) (c : Nat) (l : List Int) (hC : Kd.C (Kd.int .u8) W A l.length l) (hb : Byt l) (hl : l.length ≤ 1000000000000) (hP : ¬ ∃ rs, Parsed l rs) :
    Calls Tryz.prog 111 #[.slice A l.length c] W fun e w' => e = .returned (.tuple #[.slice none 0 0, .int .i64 80]) ∧ Below W.heap.size W w' :=
  (parse_any W A c l hC hb hl).mono fun e w' h => by
    cases h with
    | yes qs A1 c1 hQ ok he hR hB => exact absurd ⟨qs, hQ⟩ hP
    | no _ he hB => exact ⟨he, hB⟩
theorem str_bytes {x : List Int} (h : Byt x) : sBytes (strOfNums x) = x := by
  rw [sBytes, strOfNums_data, List.map_map]
  conv => rhs; rw [← List.map_id x]
  apply List.map_congr_left
  intro y hy
  have := h y hy
  simp
  omega
/-- A journal whose form was read is what was read. -/
theorem got_is {j : Jn} {x1 x3 x4 : Int} {x2 x5 x8 : List Int} {n : Nat} {x7 : List (List Int)} {s : RS} {t : List Int} (V : JnV j) (K : JnOk j) (G : GotEnc j x1 x2 x3 x4 x5 n x7 x8 s t) {rs qs : List Res} (hb : Byt x2) (h5 : Parsed x5 rs) (h8 : Parsed x8 qs) : j = ⟨strOfNums x2, x3, x4, rs, x7, qs⟩ := by
  have r5 := parsed_tab K.res V.res
  rw [← G.res] at r5
  have r8 := parsed_tab K.tab V.tab
  rw [← G.tab] at r8
  obtain rfl := h5.one r5
  obtain rfl := h8.one r8
  have e : strOfNums x2 = j.name := sBytes_inj ((str_bytes hb).trans G.name)
  rw [e, G.ent, G.idx, G.need]
theorem info29z : ((Tryz.prog.info? 29).bind (·.zero)).map (·.cells.size) = some 32 := by kernel_rfl
theorem info29b : (Tryz.prog.info? 29).map (fun i => (i.size, i.bytes)) = some (32, 32) := by kernel_rfl
theorem info29x : ∃ z : Value, (Tryz.prog.info? 29).map (fun i => (i.zero, i.size, i.bytes)) = some (some z, 32, 32) ∧ z.cells.size = 32 := by
  have h1 := info29z
  have h2 := info29b
  cases h : Tryz.prog.info? 29 with
  | none => rw [h] at h2; cases h2
  | some i =>
    rw [h] at h1 h2
    simp only [Option.bind_some, Option.map_some, Option.some.injEq, Prod.mk.injEq] at h1 h2
    cases hz : i.zero with
    | none => rw [hz] at h1; cases h1
    | some z =>
      rw [hz] at h1
      simp only [Option.map_some, Option.some.injEq] at h1
      exact ⟨z, by simp only [Option.map_some, hz, h2.1, h2.2], h1⟩
theorem wpList_build29 {ops : Array Oper} {rest : List Oper} {o : Oper} {a : Act} {w : World} {Q : Exit → Act → World → Prop} (hg : o.guard = none) (x : Operand) (ho : o.op = .buildSlice 23 1 #[(0, x)]) (r : List Int) (hr : IdOk r) (hx : a.eval x = .agg (u8s r).toArray)
    (h : wpList Tryz.prog ops Q rest (a.put o.dst (.slice (some ⟨w.heap.size, 0, none⟩) 1 1)) (w.alloc (.cells (u8s r).toArray 29))) : wpList Tryz.prog ops Q (o :: rest) a w := by
  obtain ⟨z, h1, h2⟩ := info29x
  refine wpList_buildRows hg 1 _ ho [u8s r] Tryz.underlying23 ⟨z, _, h1, h2⟩ (by simp [hx]) (fun v hv => by rw [List.mem_singleton.1 hv, u8s_length, hr.len]) rfl (by decide) (by decide) ?_
  simpa using h
theorem below_grown {b q : Nat} {w w1 : World} (hG : w.grownBy w1 (some q)) (hq : b ≤ q) (hb : b ≤ w.heap.size) : Below b w w1 := (Below.refl _ _).grown hG hb (fun k hk => by cases hk; exact hq)
theorem needS_len : ∀ (k : Nat) (s : RS), (needS k s).1.length = k
  | 0, _ => rfl
  | k + 1, s => by rw [needS, List.length_cons, needS_len k]
theorem needS_data : ∀ (k : Nat) (s : RS), (needS k s).2.data = s.data
  | 0, _ => rfl
  | k + 1, s => by rw [needS]; simp only; rw [needS_data k, raw_data]
theorem parse_w (W : World) (A : Option Addr) (c : Nat) (l : List Int) (hC : Kd.C (Kd.int .u8) W A l.length l) (hb : Byt l) (hl : l.length ≤ 1000000000000) :
    Calls Tryz.prog 111 #[.slice A l.length c] W fun e w' => ∃ A1 n1 c1 m, e = .returned (.tuple #[.slice A1 n1 c1, .int .i64 m]) ∧ Below W.heap.size W w' :=
  (parse_any W A c l hC hb hl).mono fun e w' h => by
    cases h with
    | yes qs A1 c1 hQ ok he hR hB => exact ⟨A1, _, c1, _, he, hB⟩
    | no _ he hB => exact ⟨_, _, _, _, he, hB⟩
theorem needS_ok : ∀ (k : Nat) (s : RS) (xs : List (List Int)) (s1 : RS), needS k s = (xs, s1) → Byt s.data → ∀ x ∈ xs, IdOk x
  | 0, s, xs, s1, h, _, x, hx => by rw [needS] at h; injection h with h1 h2; rw [← h1] at hx; cases hx
  | k + 1, s, xs, s1, h, hb, x, hx => by
    rw [needS] at h
    injection h with h1 h2
    rw [← h1] at hx
    rcases List.mem_cons.1 hx with rfl | hx
    · have := raw_byt hb 32
      exact pad32_ok this.2 this.1
    · exact needS_ok k (s.raw 32).2 _ _ rfl (by rw [raw_data]; exact hb) x hx
/-- A journal's cells. -/
def jV (name : ByteArray) (e i : Int) (v3 v4 v5 : Value) : List Value := [.string name, .int .i64 e, .int .i64 i, v3, v4, v5]
def nilS : Value := .slice none 0 0
/-- Reading a journal: the reader, the variable of the answer, so far. -/
structure JP (W : World) (g k : Nat) (D : Option Addr) (q2 : Nat) (w : World) (s : RS) : Prop where
  rd : Rd w g D k s
  out : w.heap[q2]? = some (.cells (jV .empty 0 0 nilS nilS nilS).toArray 60 (0, 0))
  bel : Below W.heap.size W w
  old : W.heap.size ≤ q2
  lt2 : q2 < g
  dlt : 0 < s.data.length → ∀ ad, D = some ad → q2 < ad.block
/-- .. and the journal's own variable. -/
structure JS (W : World) (g k : Nat) (D : Option Addr) (q2 q5 : Nat) (w : World) (s : RS) (cs : List Value) : Prop where
  jp : JP W g k D q2 w s
  blk : w.heap[q5]? = some (.cells cs.toArray 60 (0, 0))
  lt : g < q5
  dlt : 0 < s.data.length → ∀ ad, D = some ad → ad.block < q5
section
variable {W w w1 : World} {g k q2 q5 : Nat} {D : Option Addr} {s s1 : RS} {cs ds : List Value}
theorem JP.below (h : JP W g k D q2 w s) (hb : Below w.heap.size w w1) : JP W g k D q2 w1 s :=
  ⟨h.rd.below hb, blk_below h.out hb, h.bel.trans (hb.mono h.bel.size), h.old, h.lt2, h.dlt⟩
theorem JP.step (h : JP W g k D q2 w s) (hr : Rd w1 g D k s1) (hd : s1.data = s.data) (hG : w.grownBy w1 (some g)) : JP W g k D q2 w1 s1 :=
  ⟨hr, blk_grown h.out hG (fun e => absurd (Option.some.inj e) (by have := h.lt2; omega)), h.bel.grown hG h.bel.size (fun k hk => by cases hk; have := h.old; have := h.lt2; omega), h.old, h.lt2, by rw [hd]; exact h.dlt⟩
theorem JP.low {b : Nat} (h : JP W g k D q2 w s) (hg : g < b) (hD : 0 < s.data.length → ∀ ad, D = some ad → ad.block < b) (hb : Below b w w1) : JP W g k D q2 w1 s :=
  ⟨h.rd.low hg hD hb, (hb.block q2 (by have := h.lt2; omega)).trans h.out, h.bel.trans (hb.mono (by have := h.old; have := h.lt2; omega)), h.old, h.lt2, h.dlt⟩
theorem JP.new (h : JP W g k D q2 w s) : JS W g k D q2 w.heap.size (w.alloc (.cells (jV .empty 0 0 nilS nilS nilS).toArray 60)) s (jV .empty 0 0 nilS nilS nilS) :=
  ⟨h.below (below_alloc (Below.refl _ _) _), heap_alloc_new w _, h.rd.lt, h.rd.dlt⟩
theorem JS.below (h : JS W g k D q2 q5 w s cs) (hb : Below w.heap.size w w1) : JS W g k D q2 q5 w1 s cs := ⟨h.jp.below hb, blk_below h.blk hb, h.lt, h.dlt⟩
theorem JS.step (h : JS W g k D q2 q5 w s cs) (hr : Rd w1 g D k s1) (hd : s1.data = s.data) (hG : w.grownBy w1 (some g)) : JS W g k D q2 q5 w1 s1 cs :=
  ⟨h.jp.step hr hd hG, blk_grown h.blk hG (fun e => absurd (Option.some.inj e) (by have := h.lt; omega)), h.lt, by rw [hd]; exact h.dlt⟩
theorem JS.low (h : JS W g k D q2 q5 w s cs) {b : Nat} (hq : q5 < b) (hb : Below b w w1) : JS W g k D q2 q5 w1 s cs :=
  ⟨h.jp.low (by have := h.lt; omega) (fun h0 ad he => by have := h.dlt h0 ad he; omega) hb, (hb.block q5 hq).trans h.blk, h.lt, h.dlt⟩
theorem JS.put (h : JS W g k D q2 q5 w s cs) (hb : w1.heap[q5]? = some (.cells ds.toArray 60 (0, 0))) (hG : w.grownBy w1 (some q5)) : JS W g k D q2 q5 w1 s ds :=
  ⟨⟨h.jp.rd.beside (by have := h.lt; omega) (fun h0 ad he => by have := h.dlt h0 ad he; omega) hG, blk_grown h.jp.out hG (fun e => absurd (Option.some.inj e) (by have := h.lt; have := h.jp.lt2; omega)), h.jp.bel.grown hG h.jp.bel.size (fun k hk => by cases hk; have := h.lt; have := h.jp.lt2; have := h.jp.old; omega), h.jp.old, h.jp.lt2, h.jp.dlt⟩, hb, h.lt, h.dlt⟩
theorem JS.lt5 (h : JS W g k D q2 q5 w s cs) : q5 < w.heap.size := blk_lt h.blk
end
theorem results_ct60 {fn : Func} {p q : Tmp} {cs : List Value} (hc : cs.length = 6) (h : fn.results = #[.cell q 60, .tmp p]) (tmps : Array Value) (w : World) (g : Nat)
    (hp : tmps.getD q undef = .pointer (some ⟨g, 0, none⟩)) (hg : w.heap[g]? = some (.cells cs.toArray 60 (0, 0))) :
    (results fn tmps).run Tryz.prog w = .ok (.tuple #[.agg cs.toArray, tmps.getD p undef]) w := by
  have hp' : tmps[q]?.getD undef = .pointer (some ⟨g, 0, none⟩) := by simpa using hp
  have hl := run_loadVar_at (P := Tryz.prog) w ⟨g, 0, none⟩ 60 cs _ (At.blk hg) Tryz.underlying60 rfl (by rw [hc]; exact info60)
  simp [results, h, hp', asAddr, hl]
theorem jC_one {j : Jn} {A1 A2 A3 : Option Addr} {c1 c2 c3 : Nat} : ∀ v ∈ jC j A1 c1 A2 c2 A3 c3, v.oneCell' = true := by
  intro v hv
  simp only [jC, List.mem_cons, List.not_mem_nil, or_false] at hv
  rcases hv with rfl | rfl | rfl | rfl | rfl | rfl <;> rfl
theorem jV_one {name : ByteArray} {e i : Int} {v3 v4 v5 : Value} (h3 : v3.oneCell' = true) (h4 : v4.oneCell' = true) (h5 : v5.oneCell' = true) : ∀ v ∈ jV name e i v3 v4 v5, v.oneCell' = true := by
  intro v hv
  simp only [jV, List.mem_cons, List.not_mem_nil, or_false] at hv
  rcases hv with rfl | rfl | rfl | rfl | rfl | rfl <;> first | rfl | assumption
end Go.Proofs.YtdekmeanlcpenaaGreatDoor.Codec

namespace Go.Proofs.YtdekmeanlcpenaaGreatDoor.SlEq
open Go.RowKit Go.Proofs.YtdekmeanlcpenaaGreatDoorW.PrintWords Go.Proofs.YtdekmeanlcpenaaGreatDoorW.PrintLast Go.Proofs.YtdekmeanlcpenaaGreatDoorW.PrintMore Go.Proofs.YtdekmeanlcpenaaGreatDoor.Codec Go.Proofs.YtdekmeanlcpenaaGreatDoor.Block
attribute [local go_sem] max2_int min2_int max_two min_two max_three min_three max_four min_four
set_option linter.unusedVariables false
set_option linter.unusedSimpArgs false

-- the lines of the kit's print for function 116 of this seat
/-! ### slices_Equal_byte_byte: function 116 -/
def slices_Equal_byte_byte.l0 : Nat → List Int → List Int → Int → Int → Option (Bool)
  | 0, _, _, _, _ => none
  | k + 1, x0, x1, x12, x13 => if x13 < x12 then (if 0 ≤ x13 then (if x13 < (x0.length : Int) then (if x13 < (x1.length : Int) then (if (rd x0 x13) = (rd x1 x13) then (slices_Equal_byte_byte.l0 k x0 x1 x12 (wrap64 (x13 + 1))) else (some false)) else (none)) else (none)) else (none)) else (some true)
def slices_Equal_byte_byte.f (k : Nat) (l0 : List Int) (l1 : List Int) : Option (Bool) := if (l0.length : Int) = (l1.length : Int) then (slices_Equal_byte_byte.l0 k l0 l1 (l0.length : Int) 0) else (some false)
theorem slices_Equal_byte_byte.mono_l : ∀ k, (∀ y0 y1 y2 y3, LeO (slices_Equal_byte_byte.l0 k y0 y1 y2 y3) (slices_Equal_byte_byte.l0 (k + 1) y0 y1 y2 y3))
  | 0 => fun _ _ _ _ r h => by simp [slices_Equal_byte_byte.l0] at h
  | k + 1 => by
    have ih0 := slices_Equal_byte_byte.mono_l k
    · intro y0 y1 y2 y3
      unfold slices_Equal_byte_byte.l0
      repeat' first
      | (with_reducible exact ih0 _ _ _ _)
      | (with_reducible exact LeO.refl _)
      | (with_reducible exact LeO.none _)
      | (with_reducible refine LeO.ite ?_ ?_)
      | (with_reducible refine LeO.bind ?_ (fun _ => ?_))
      | exact ih0 _ _ _ _
      | exact LeO.none _
      | refine LeO.ite ?_ ?_
      | refine LeO.bind ?_ (fun _ => ?_)
theorem slices_Equal_byte_byte.mono : ∀ a0 a1 k, LeO (slices_Equal_byte_byte.f k a0 a1) (slices_Equal_byte_byte.f (k + 1) a0 a1) := by
  intro a0 a1 k
  have ih0 := slices_Equal_byte_byte.mono_l k
  unfold slices_Equal_byte_byte.f
  repeat' first
      | (with_reducible exact ih0 _ _ _ _)
      | (with_reducible exact LeO.refl _)
      | (with_reducible exact LeO.none _)
      | (with_reducible refine LeO.ite ?_ ?_)
      | (with_reducible refine LeO.bind ?_ (fun _ => ?_))
      | exact ih0 _ _ _ _
      | exact LeO.none _
      | refine LeO.ite ?_ ?_
      | refine LeO.bind ?_ (fun _ => ?_)
set_option maxHeartbeats 8000000 in
set_option maxRecDepth 100000 in
theorem slices_Equal_byte_byte.calls (k : Nat) (A0 : Option Addr) (c0 : Nat) (l0 : List Int) (A1 : Option Addr) (c1 : Nat) (l1 : List Int) (r : Bool) (w : World) (hr0 : Kd.C (Kd.int .u8) w A0 l0.length l0) (hc0 : l0.length ≤ c0) (hr1 : Kd.C (Kd.int .u8) w A1 l1.length l1) (hc1 : l1.length ≤ c1) (h : slices_Equal_byte_byte.f k l0 l1 = some r) :
    Calls Tryz.prog 116 #[.slice A0 l0.length c0, .slice A1 l1.length c1] w fun e w' => e = .returned (.bool r) ∧ Drawn0 w w' := by
  have HR0 := Aside0.mk hr0
  have HC0 := Aside0.mk hc0
  clear hr0 hc0
  have HR1 := Aside0.mk hr1
  have HC1 := Aside0.mk hc1
  clear hr1 hc1
  have H : (if (l0.length : Int) = (l1.length : Int) then (slices_Equal_byte_byte.l0 k l0 l1 (l0.length : Int) 0) else (some false)) = some r := h
  clear h
  by_cases c3 : (l0.length : Int) = (l1.length : Int)
  · rw [if_pos c3] at H
    have c3b0 : ((l0.length : Int) == (l1.length : Int)) = true := beq_iff_eq.mpr c3
    have c3b1 : ((l0.length : Int) != (l1.length : Int)) = false := bne_eq_false_iff_eq.mpr c3
    have c3b2 : (l0.length == l1.length) = true := by first | simpa using c3 | (simp at c3 ⊢; omega)
    clear c3
    have H' := Aside0.mk H
    clear H
    go_enter Tryz.func116, Tryz.ntmps116
    go_wp2
    repeat (go_quiet (fail); try go_wp2)
    go_loopg [13] k (fun kq v13 w' => ∃ (x13_1 : Int), v13 = .int .i64 x13_1 ∧ Aside0 (slices_Equal_byte_byte.l0 kq l0 l1 (l0.length : Int) x13_1 = some r) ∧ Aside0 (kq ≤ k) ∧ Drawn0 w w')
    case atStart => exact ⟨(0), (by first | rfl | (simp; done) | (simp [*]; done)), H', ⟨Nat.le_refl _⟩, by repeat (first | exact Drawn0.refl _ | apply Drawn0.step)⟩
    case round =>
      clear H'
      try clear c1
      try clear p2
      try clear c3
      try clear c3b0
      try clear c3b1
      try clear c3b2
      obtain ⟨x13_1, rfl, HA, HK1, ⟨m1, rfl⟩⟩ := hrel
      cases gk with
      | zero => exact absurd HA.out (by simp [slices_Equal_byte_byte.l0])
      | succ k1 =>
        have H := HA.out
        clear HA
        simp only [slices_Equal_byte_byte.l0] at H
        by_cases c4 : x13_1 < (l0.length : Int)
        · rw [if_pos c4] at H
          have c4b0 : decide (x13_1 < (l0.length : Int)) = true := decide_eq_true c4
          clear c4
          by_cases c5 : 0 ≤ x13_1
          · rw [if_pos c5] at H
            have c5b0 : decide (0 ≤ x13_1) = true := decide_eq_true c5
            clear c5
            by_cases c6 : x13_1 < (l0.length : Int)
            · rw [if_pos c6] at H
              have c6b0 : decide (x13_1 < (l0.length : Int)) = true := decide_eq_true c6
              clear c6
              by_cases c7 : x13_1 < (l1.length : Int)
              · rw [if_pos c7] at H
                have c7b0 : decide (x13_1 < (l1.length : Int)) = true := decide_eq_true c7
                clear c7
                by_cases c8 : (rd l0 x13_1) = (rd l1 x13_1)
                · rw [if_pos c8] at H
                  have c8b0 : ((rd l0 x13_1) == (rd l1 x13_1)) = true := beq_iff_eq.mpr c8
                  have c8b1 : ((rd l0 x13_1) != (rd l1 x13_1)) = false := bne_eq_false_iff_eq.mpr c8
                  clear c8
                  have H' := Aside0.mk H
                  clear H
                  have p124 : 0 ≤ (x13_1 : Int) := of_decide_eq_true (by first | (with_reducible assumption) | assumption)
                  have q124 : x13_1 < (l0.length : Int) := of_decide_eq_true (by first | (with_reducible assumption) | assumption)
                  obtain ⟨ad124, e124, hx124_0⟩ := Kd.at_int HR0.out x13_1 p124 q124
                  cases e124
                  replace p124 := eq_true p124
                  replace q124 := eq_true q124
                  have p125 : 0 ≤ (x13_1 : Int) := of_decide_eq_true (by first | (with_reducible assumption) | assumption)
                  have q125 : x13_1 < (l1.length : Int) := of_decide_eq_true (by first | (with_reducible assumption) | assumption)
                  obtain ⟨ad125, e125, hx125_0⟩ := Kd.at_int HR1.out x13_1 p125 q125
                  cases e125
                  replace p125 := eq_true p125
                  replace q125 := eq_true q125
                  go_wp2
                  repeat (go_quiet (fail); try go_wp2)
                  go_roundg k1
                  case measure => have := HK1.out; omega
                  case rel => exact ⟨(wrap64 (x13_1 + 1)), (by first | rfl | (simp; done) | (simp [*]; done)), H', ⟨by have := HK1.out; omega⟩, by repeat (first | exact Drawn0.refl _ | apply Drawn0.step)⟩
                · rw [if_neg c8] at H
                  have c8b0 : ((rd l0 x13_1) == (rd l1 x13_1)) = false := beq_eq_false_iff_ne.mpr c8
                  have c8b1 : ((rd l0 x13_1) != (rd l1 x13_1)) = true := bne_iff_ne.mpr c8
                  obtain rfl := Option.some.inj H
                  have p124 : 0 ≤ (x13_1 : Int) := of_decide_eq_true (by first | (with_reducible assumption) | assumption)
                  have q124 : x13_1 < (l0.length : Int) := of_decide_eq_true (by first | (with_reducible assumption) | assumption)
                  obtain ⟨ad124, e124, hx124_0⟩ := Kd.at_int HR0.out x13_1 p124 q124
                  cases e124
                  replace p124 := eq_true p124
                  replace q124 := eq_true q124
                  have p125 : 0 ≤ (x13_1 : Int) := of_decide_eq_true (by first | (with_reducible assumption) | assumption)
                  have q125 : x13_1 < (l1.length : Int) := of_decide_eq_true (by first | (with_reducible assumption) | assumption)
                  obtain ⟨ad125, e125, hx125_0⟩ := Kd.at_int HR1.out x13_1 p125 q125
                  cases e125
                  replace p125 := eq_true p125
                  replace q125 := eq_true q125
                  go_wp2
                  repeat (go_quiet (fail); try go_wp2)
                  go_ret
                  exact ⟨by first | rfl | (simp; done) | (simp [*]; done), by repeat (first | exact Drawn0.refl _ | apply Drawn0.step)⟩
              · rw [if_neg c7] at H
                exact absurd H (by simp)
            · rw [if_neg c6] at H
              exact absurd H (by simp)
          · rw [if_neg c5] at H
            exact absurd H (by simp)
        · rw [if_neg c4] at H
          have c4b0 : decide (x13_1 < (l0.length : Int)) = false := decide_eq_false c4
          clear c4
          obtain rfl := Option.some.inj H
          go_wp2
          repeat (go_quiet (fail); try go_wp2)
          go_ret
          exact ⟨by first | rfl | (simp; done) | (simp [*]; done), by repeat (first | exact Drawn0.refl _ | apply Drawn0.step)⟩
  · rw [if_neg c3] at H
    have c3b0 : ((l0.length : Int) == (l1.length : Int)) = false := beq_eq_false_iff_ne.mpr c3
    have c3b1 : ((l0.length : Int) != (l1.length : Int)) = true := bne_iff_ne.mpr c3
    have c3b2 : (l0.length == l1.length) = false := by first | simpa using c3 | (simp at c3 ⊢; omega)
    obtain rfl := Option.some.inj H
    go_enter Tryz.func116, Tryz.ntmps116
    go_wp2
    repeat (go_quiet (fail); try go_wp2)
    go_ret
    exact ⟨by first | rfl | (simp; done) | (simp [*]; done), by repeat (first | exact Drawn0.refl _ | apply Drawn0.step)⟩


theorem eq_loop : ∀ (k i : Nat) (a b : List Int), a.length = b.length → a.length ≤ 1000000000000 → a.length < i + k → i ≤ a.length → slices_Equal_byte_byte.l0 k a b (a.length : Int) (i : Int) = some (decide (a.drop i = b.drop i))
  | 0, i, a, b, he, hl, hk, hi => by omega
  | k + 1, i, a, b, he, hl, hk, hi => by
    rw [slices_Equal_byte_byte.l0]
    by_cases h : i < a.length
    · rw [if_pos (by omega), if_pos (by omega), if_pos (by omega), if_pos (by omega), rd_nat, rd_nat, List.getD_eq_getElem?_getD, List.getD_eq_getElem?_getD, List.getElem?_eq_getElem h, List.getElem?_eq_getElem (by omega)]
      have hw : wrap64 ((i : Int) + 1) = ((i + 1 : Nat) : Int) := by unfold wrap64; omega
      rw [List.drop_eq_getElem_cons h, List.drop_eq_getElem_cons (by omega : i < b.length)]
      simp only [Option.getD_some]
      by_cases e : a[i] = b[i]
      · rw [if_pos e, hw, eq_loop k (i + 1) a b he hl (by omega) (by omega)]
        congr 1
        rw [decide_eq_decide]
        exact ⟨fun h => by rw [h, e], fun h => (List.cons.inj h).2⟩
      · rw [if_neg e, decide_eq_false (fun h => e (List.cons.inj h).1)]
    · rw [if_neg (by omega), List.drop_of_length_le (by omega), List.drop_of_length_le (by omega)]
      simp
theorem eq_all (a b : List Int) (hl : a.length ≤ 1000000000000) : slices_Equal_byte_byte.f (a.length + 1) a b = some (decide (a = b)) := by
  rw [slices_Equal_byte_byte.f]
  by_cases h : a.length = b.length
  · rw [if_pos (by omega)]
    have := eq_loop (a.length + 1) 0 a b h hl (by omega) (by omega)
    simpa using this
  · rw [if_neg (by omega)]
    have : a ≠ b := fun e => h (by rw [e])
    simp [this]
theorem equal_any (A0 : Option Addr) (c0 : Nat) (l0 : List Int) (A1 : Option Addr) (c1 : Nat) (l1 : List Int) (w : World) (hr0 : Kd.C (Kd.int .u8) w A0 l0.length l0) (hc0 : l0.length ≤ c0) (hr1 : Kd.C (Kd.int .u8) w A1 l1.length l1) (hc1 : l1.length ≤ c1) (hl : l0.length ≤ 1000000000000) :
    Calls Tryz.prog 116 #[.slice A0 l0.length c0, .slice A1 l1.length c1] w fun e w' => e = .returned (.bool (decide (l0 = l1))) ∧ Below w.heap.size w w' :=
  (slices_Equal_byte_byte.calls _ A0 c0 l0 A1 c1 l1 _ w hr0 hc0 hr1 hc1 (eq_all l0 l1 hl)).mono fun e w' ⟨h1, h2⟩ => ⟨h1, by
    obtain ⟨m, rfl⟩ := h2
    exact pw_below_drewN (Below.refl _ _) m⟩
end Go.Proofs.YtdekmeanlcpenaaGreatDoor.SlEq
