import Derived.Test.YtdekmeanlcpenaaGreatDoorGrN4
import Derived.Test.YtdekmeanlcpenaaGreatDoorGrN3
import Derived.Test.YtdekmeanlcpenaaGreatDoorGrN1
import Derived.Test.YtdekmeanlcpenaaGreatDoorProg
import Derived.Test.YtdekmeanlcpenaaGreatDoorWMore
import Derived.Deep.Slices
import Derived.ChangeSame
import Derived.SizedLaws
import Derived.OpenShut
namespace Go.Proofs.YtdekmeanlcpenaaGreatDoor.Pick
open Go.RowKit Go.Proofs.YtdekmeanlcpenaaGreatDoorW.PrintWords Go.Proofs.YtdekmeanlcpenaaGreatDoor.Mid
attribute [local go_sem ↓ high] load33_eq load29_eq build69_eq
attribute [local simp] rowOf_drew rowOf_drewN
attribute [local go_sem high] load33_row load29_row rowOf_drew rowOf_drewN
set_option maxHeartbeats 2000000
set_option maxRecDepth 100000

def opPick : ByteArray := { data := #[114, 101, 115, 116, 111, 114, 101, 46, 112, 105, 99, 107] }
/-- The error that such an answer comes with: none, or a new Fault. -/
inductive ErrAt (w : World) (base : Nat) (op name : ByteArray) (n : Int) (id : List Int) : Value → Prop
  | none : n = 0 → ErrAt w base op name n id .nilIface
  | some (g : Nat) : n ≠ 0 → base ≤ g → w.heap[g]? = some (.cells (faultC op name id (errno n)).toArray 82 (0, 0)) → ErrAt w base op name n id (.iface 79 (.pointer (some ⟨g, 0, none⟩)))
theorem ErrAt.move {w w1 : World} {base : Nat} {op name : ByteArray} {n : Int} {id : List Int} {v : Value} (h : ErrAt w base op name n id v) (hb : Below w.heap.size w w1) : ErrAt w1 base op name n id v := by
  cases h with
  | none h => exact .none h
  | some g h1 h2 h3 => exact .some g h1 h2 ((hb.block _ (blk_lt h3)).trans h3)

structure RetPick (rs : List Res) (qs : List (List Int)) (base : Nat) (e : Ending) (w' : World) : Prop where
  out : ∃ (v err : Value) (out : List Res) (n : Int) (id : List Int), e = .returned (.tuple #[v, err]) ∧ Picked rs qs out n id ∧ resK.R 33 w' base (fun _ => True) v out ∧ ErrAt w' base opPick .empty n id err ∧ IdOk id
theorem bldBad (w : World) : (bld 82 #[(0, .string opPick), (3, .iface 80 (.int .i64 1))]).run Tryz.prog w = .ok (.agg (faultC opPick .empty z32 (errno 1)).toArray) w := bld69_two w opPick (errno 1) rfl

theorem Pick_any (A : Option Addr) (c : Nat) (rs : List Res) (A2 : Option Addr) (c2 : Nat) (qs : List (List Int)) (w : World) (hC : resK.C w A rs.length rs) (hD : idK.C w A2 qs.length qs) (hc : rs.length ≤ c) (ok : ∀ r ∈ rs, ResOk r) (oka : ∀ a ∈ qs, IdOk a)
    (hca : qs.length ≤ 1000000) :
    Calls Tryz.prog 9 #[.slice A rs.length c, .slice A2 qs.length c2] w fun e w' => RetPick rs qs w.heap.size e w' ∧ Below w.heap.size w w' := by
  have HC := Aside0.mk hC
  have HD := Aside0.mk hD
  have HO := Aside0.mk ok
  have HOA := Aside0.mk oka
  have Hc := Aside0.mk hc
  clear hC hD ok oka hc
  by_cases hT : Table rs
  · have HT := Aside0.mk hT
    clear hT
    have main : ∀ (bs : Bool), (bs = true → ∀ a, ¬ Lacks rs qs a) → (bs = false → ∃ a, Lacks rs qs a) → Calls Tryz.prog 9 #[.slice A rs.length c, .slice A2 qs.length c2] w fun e w' => RetPick rs qs w.heap.size e w' ∧ Below w.heap.size w w' := by
      intro bs hb0 hb1
      have HB0 := Aside0.mk hb0
      have HB1' := Aside0.mk hb1
      clear hb0 hb1
      go_enter Tryz.func9, Tryz.ntmps9
      go_upto_region 3 with (first
        | (go_at_call 31; refine (table_valid A c rs _ HC.out Hc.out).mono ?_; rintro e w1 ⟨⟨q, rfl, hq⟩, hb1⟩; have hqt : q = true := hq.2 HT.out; subst hqt; have HB1 := Aside0.mk hb1; clear hq hb1)
        | go_in)
      go_upto_region 4 with (first
        | (go_at_call 32; refine (pick_prog A c rs A2 c2 qs _ (Kd.C_below HC.out HB1.out) (Kd.C_below HD.out HB1.out) HO.out HOA.out HT.out hca).mono ?_; rintro e w2 ⟨⟨v, least, first, rfl, hR, hlo, hy, hn⟩, hb2⟩;
           have hfb : first = bs := (by cases first <;> cases bs; rfl; exact absurd ((hn rfl).1) (HB0.out rfl _); exact absurd (HB1'.out rfl).choose_spec ((hy rfl).1 _); rfl); subst hfb;
           have HR2 := Aside0.mk hR; have Hlo := Aside0.mk hlo; have Hy := Aside0.mk hy; have Hn := Aside0.mk hn; have HB2 := Aside0.mk (HB1.out.trans (hb2.mono HB1.out.size)); clear hR hlo hy hn hb2)
        | (refine store29_new rfl rfl _ _ rfl _ rfl least Hlo.out rfl rfl ?_)
        | go_in)
      have hv : ∃ A3 k3 n3, v = .slice A3 n3 k3 := by obtain ⟨A3, k3, e⟩ := Kd.R_slice HR2.out; exact ⟨_, _, _, e⟩
      obtain ⟨A3, k3, n3, rfl⟩ := hv
      cases first with
      | true =>
        have HBT := Aside0.mk (HB0.out rfl)
        go_wp2
        go_ret2
        have hbn := below_alloc (Below.refl w2.heap.size w2) (.cells (u8s least).toArray 29)
        exact ⟨⟨⟨_, _, pickS rs qs, 0, z32, rfl, ⟨fun h => absurd HT.out h, fun _ _ => ⟨rfl, rfl, rfl⟩, fun _ h => absurd h.choose_spec (HBT.out _)⟩, Kd.R_below (Kd.R_lower HR2.out HB1.out.size) hbn, .none rfl, z32_ok⟩⟩, HB2.out.trans (hbn.mono HB2.out.size)⟩
      | false =>
        have HBF := Aside0.mk (HB1'.out rfl)
        have HLe := Aside0.mk (Hn.out rfl)
        obtain ⟨W, hW⟩ : ∃ W, W = w2.alloc (.cells (u8s least).toArray 29) := ⟨_, rfl⟩
        rw [← hW]
        have hBW : Below w2.heap.size w2 W := hW ▸ below_alloc (Below.refl _ _) _
        have hrange : W.rangeAt w2.heap.size 0 (u8s least) := (hW ▸ At.new w2 (u8s least) 29 : At W _ _).range
        have HBW := Aside0.mk hBW
        have HBd := Aside0.mk (HB2.out.trans (hBW.mono HB2.out.size))
        clear hW hBW
        have hbb := fun u => bld69_three u opPick least Hlo.out (errno 96) rfl
        unfold opPick errno at hbb
        go_wp2
        have hrange2 : W.drew.rangeAt w2.heap.size 0 (u8s least) := hrange
        have hi29 : (Tryz.prog.info? 29).map (·.size) = some (u8s least).length := by rw [u8s_length, Hlo.out.len]; exact info29
        have hu29 := Tryz.underlying29
        go_region_held3 (fun w' => w'.rangeAt w2.heap.size 0 (u8s least)) (first | go_keep_ranges | exact hrange2) (fail)
        go_wp2
        go_ret2
        have hbn := (below_alloc (Below.refl W.heap.size W) (.cells (faultC opPick .empty least (errno 96)).toArray 82)).drew
        exact ⟨⟨⟨_, _, [], 96, least, rfl, ⟨fun h => absurd HT.out h, fun _ h => absurd HBF.out.choose_spec (h _), fun _ _ => ⟨rfl, rfl, HLe.out⟩⟩, Kd.R_nil resK 33 _ _ _, .some W.heap.size (by decide) HBd.out.size (heap_alloc_new W _), Hlo.out⟩⟩, HBd.out.trans (hbn.mono HBd.out.size)⟩
    by_cases hL : ∃ a, Lacks rs qs a
    · exact main false (fun h => (by cases h)) (fun _ => hL)
    · exact main true (fun _ a ha => hL ⟨a, ha⟩) (fun h => (by cases h))
  · have HT := Aside0.mk hT
    clear hT
    have hbb := bldBad
    unfold opPick at hbb
    go_enter Tryz.func9, Tryz.ntmps9
    go_wp2_with (first
      | (go_at_call 31; refine (table_valid A c rs _ HC.out Hc.out).mono ?_; rintro e w1 ⟨⟨q, rfl, hq⟩, hb1⟩; have hqf : q = false := (by cases q with | false => rfl | true => exact absurd (hq.1 rfl) HT.out); subst hqf)
      | go_in)
    go_ret2
    refine ⟨⟨⟨_, _, [], 1, z32, rfl, ⟨fun _ => ⟨rfl, rfl, rfl⟩, fun h => absurd h HT.out, fun h => absurd h HT.out⟩, Kd.R_nil resK 33 _ _ _, .some w1.heap.size (by decide) hb1.size (heap_alloc_new w1 _), z32_ok⟩⟩, hb1.trans ((below_alloc (Below.refl _ _) _).mono hb1.size)⟩
end Go.Proofs.YtdekmeanlcpenaaGreatDoor.Pick

namespace Go.Proofs.YtdekmeanlcpenaaGreatDoor.Mid
open Go.RowKit Go.Proofs.YtdekmeanlcpenaaGreatDoorW.PrintWords
attribute [local go_sem ↓ high] load33_eq load29_eq
attribute [local simp] rowOf_drew rowOf_drewN
attribute [local go_sem high] load33_row load29_row rowOf_drew rowOf_drewN

theorem res_code' {w : World} {p : Addr} {r : Res} (hr : ResOk r) (h : At w p (resC r)) : w.cell? ⟨p.block, p.off + 64, none⟩ = some (.int .i64 r.code) := res_code hr h
set_option maxHeartbeats 1000000
set_option maxRecDepth 100000
theorem ref_valid (A : Option Addr) (c : Nat) (rs : List Res) (w : World) (hC : resK.C w A rs.length rs) (hc : rs.length ≤ c) (hl : rs.length ≤ 140737488355328) :
    Calls Tryz.prog 28 #[.slice A rs.length c] w fun e w' => RetB e (Table rs) ∧ Below w.heap.size w w' := by
  have HC := Aside0.mk hC
  have Hc := Aside0.mk hc
  clear hC hc
  by_cases hm : rs.length ≤ 32
  · have hm1 : (rs.length : Int) ≤ 32 := by omega
    go_enter Tryz.func28, Tryz.ntmps28
    go_wp2
    go_loopg [3] rs.length (fun k v3 w' => ∃ i : Nat, v3 = .int .i64 i ∧ i + k = rs.length ∧ Aside0 (Upto rs i) ∧ Aside0 (Below w.heap.size w w'))
    case atStart => exact ⟨0, rfl, by omega, ⟨upto_none rs⟩, ⟨Below.refl _ _⟩⟩
    case round =>
      obtain ⟨i, rfl, hik, HU, HB⟩ := hrel
      cases gk with
      | zero =>
        have hd : decide (i < rs.length) = false := by simp; omega
        have hi : Aside0 (i = rs.length) := ⟨by omega⟩
        clear hik
        go_wp2
        go_ret
        exact ⟨.yes rfl (upto_all HU.out (by rw [hi.out]; exact Nat.le_refl _) hm), HB.out⟩
      | succ k =>
        have hi : i < rs.length := by omega
        have hi1 : (i : Int) < (rs.length : Int) := by omega
        obtain ⟨ad, r, rfl, hr, ho, hat⟩ := res_at (Kd.C_below HC.out HB.out) i hi
        have hcell := res_code' ho hat
        have hact := (res_act hat).id ho.act
        have HR := Aside0.mk hr
        have Ho := Aside0.mk ho
        have Hat := Aside0.mk hat
        clear hat ho hr
        by_cases hf1 : r.code < 0
        · go_wp2
          go_ret
          exact ⟨.no rfl (fun T => by have := T.code r (List.mem_of_getElem? HR.out); omega), HB.out⟩
        · have hf2 : decide (r.code < 0) = false := by simpa using hf1
          by_cases hf3 : 255 < r.code
          · go_wp2
            go_ret
            exact ⟨.no rfl (fun T => by have := T.code r (List.mem_of_getElem? HR.out); omega), HB.out⟩
          · have hf4 : decide (255 < r.code) = false := by simpa using hf3
            have Hf : Aside0 (0 ≤ r.code ∧ r.code ≤ 255) := ⟨by omega⟩
            clear hf1 hf3
            obtain rfl | ⟨m, rfl⟩ : i = 0 ∨ ∃ m, i = m + 1 := by cases i; exact .inl rfl; exact .inr ⟨_, rfl⟩
            · simp only [Nat.zero_mul, Addr.add_zero'] at hcell hact
              go_wp2
              refine wp_region_S (Since wr) (by kernel_rfl) (by kernel_rfl) (since_drew wr) ?_
              repeat (go_big_quiet_step (fail))
              refine wpQuiet_nil ?_
              rintro _ ⟨⟨w5, hb5⟩, rfl⟩
              go_wp2
              go_roundg k
              case measure => omega
              case rel => exact ⟨1, by go_num, by omega, ⟨upto_one HR.out Hf.out⟩, ⟨below_of HB.out hb5 (Nat.le_refl _)⟩⟩
            · have hm0 : m < rs.length := by omega
              have hm2 : (m : Int) < (rs.length : Int) := by omega
              obtain ⟨ad', q, e1, hq, hqo, hqa⟩ := res_at (Kd.C_below HC.out HB.out) m hm0
              cases e1
              have g2 : ∀ x : CW (Since wr), rowOf x.w (ad.add ((m + 1) * 65)) 32 = some (u8s r.act) := fun x => (res_act (Hat.out.below x.h)).id Ho.out.act
              have g3 : ∀ x : CW (Since wr), rowOf x.w (ad.add (m * 65)) 32 = some (u8s q.act) := fun x => (res_act (hqa.below x.h)).id hqo.act
              have HQ := Aside0.mk hq
              have Hqo := Aside0.mk hqo
              clear hq hqo hqa
              by_cases hc : cmp q.act r.act < 0
              · have hd3 : decide (0 ≤ cmp q.act r.act) = false := by simpa using hc
                have Hcm := Aside0.mk hc
                clear hc
                go_wp2
                refine wp_region_S (Since wr) (by kernel_rfl) (by kernel_rfl) (since_drew wr) ?_
                repeat (go_big_quiet_step (first | (go_at_call 72; refine calls_since (order_any _ q.act r.act Hqo.out.act Ho.out.act))))
                refine wpQuiet_nil ?_
                rintro _ ⟨⟨w5, hb5⟩, rfl⟩
                go_wp2
                go_roundg k
                case measure => omega
                case rel => exact ⟨m + 2, by go_num, by omega, ⟨upto_step HU.out HQ.out HR.out Hf.out Hcm.out⟩, ⟨below_of HB.out hb5 (Nat.le_refl _)⟩⟩
              · have hd3 : 0 ≤ cmp q.act r.act := by omega
                have Hcm := Aside0.mk hc
                clear hc
                go_wp2
                refine wp_region_S (Since wr) (by kernel_rfl) (by kernel_rfl) (since_drew wr) ?_
                repeat (go_big_quiet_step (first | (go_at_call 72; refine calls_since (order_any _ q.act r.act Hqo.out.act Ho.out.act))))
                refine wpQuiet_nil ?_
                rintro _ ⟨⟨w5, hb5⟩, rfl⟩
                go_wp2
                go_ret
                exact ⟨.no rfl (fun T => (by have h6 := T.rise m q r HQ.out HR.out; have h7 := Hcm.out; omega)), below_of HB.out hb5 (Nat.le_refl _)⟩
  · have hm1 : (32 : Int) < rs.length := by omega
    go_enter Tryz.func28, Tryz.ntmps28
    go_wp2
    go_ret
    exact ⟨.no rfl (fun T => absurd T.most hm), Below.refl _ _⟩
end Go.Proofs.YtdekmeanlcpenaaGreatDoor.Mid

namespace Go.Proofs.YtdekmeanlcpenaaGreatDoor.Mid
open Go.RowKit Go.Proofs.YtdekmeanlcpenaaGreatDoorW.PrintWords
attribute [local go_sem ↓ high] load33_eq load29_eq build33_eq
attribute [local simp] rowOf_drew rowOf_drewN
attribute [local go_sem high] load33_row load29_row rowOf_drew rowOf_drewN bld33_none
set_option maxHeartbeats 1000000
set_option maxRecDepth 100000

theorem results_ct {fn : Func} {q u : Tmp} {r : Res} (hr : ResOk r) (h : fn.results = #[.cell q 33, .tmp u]) (tmps : Array Value) (w : World) (g : Nat)
    (hp : tmps.getD q undef = .pointer (some ⟨g, 0, none⟩)) (hg : w.heap[g]? = some (.cells (resC r).toArray 33 (0, 0))) :
    (results fn tmps).run Tryz.prog w = .ok (.tuple #[resv r, tmps.getD u undef]) w := by
  have hp' : tmps[q]?.getD undef = .pointer (some ⟨g, 0, none⟩) := by simpa using hp
  have hl := run_loadVar_at (P := Tryz.prog) w ⟨g, 0, none⟩ 33 (resC r) _ (At.blk hg) Tryz.underlying33 rfl (by rw [resC_length hr]; exact info33)
  simp [results, h, hp', asAddr, hl, resv]
theorem eqI29 (w : World) (x y : List Int) (hx : IdOk x) (hy : IdOk y) : (Op.equalIn 10000 29 (.agg (u8s x).toArray) (.agg (u8s y).toArray)).run Tryz.prog w = .ok (decide (x = y)) w := eq29 w x y hx hy
theorem eqI33 (w : World) (r s : Res) (hr : ResOk r) (hs : ResOk s) : (Op.equalIn 10000 33 (.agg (resC r).toArray) (.agg (resC s).toArray)).run Tryz.prog w = .ok (decide (r = s)) w := eq33 w r s hr hs
theorem eqE29 (w : World) (x y : List Int) (hx : IdOk x) (hy : IdOk y) : (Op.equal 29 (.agg (u8s x).toArray) (.agg (u8s y).toArray)).run Tryz.prog w = .ok (decide (x = y)) w := eq29 w x y hx hy

/-- What Find answers. -/
structure RetFind (rs : List Res) (x : List Int) (e : Ending) : Prop where
  out : ∃ (r : Res) (q : Bool), e = .returned (.tuple #[resv r, .bool q]) ∧ ResOk r ∧ (q = true ↔ ∃ s ∈ rs, s.act = x)
theorem find_any (A : Option Addr) (c : Nat) (rs : List Res) (x : List Int) (w : World) (hC : resK.C w A rs.length rs) (hx : IdOk x) (hl : rs.length ≤ 140737488355328) :
    Calls Tryz.prog 29 #[.slice A rs.length c, idv x] w fun e w' => RetFind rs x e ∧ Below w.heap.size w w' := by
  have HC := Aside0.mk hC
  have Hx := Aside0.mk hx
  clear hC hx
  unfold idv
  go_enter Tryz.func29, Tryz.ntmps29
  go_upto_region 1 with (fail)
  obtain ⟨W, hW⟩ : ∃ W, W = (w.alloc (.cells (u8s x).toArray 29)).alloc (.cells Tryz.zeroCells33 33) := ⟨_, rfl⟩
  rw [← hW]
  have hsz0 : (w.alloc (.cells (u8s x).toArray 29)).heap.size = w.heap.size + 1 := by simp
  have hBW : Below w.heap.size w W := hW ▸ below_alloc (below_alloc (Below.refl _ _) _) _
  have hx0 : At W ⟨w.heap.size, 0, none⟩ (u8s x) := hW ▸ (At.new w (u8s x) 29).below (below_alloc (Below.refl _ _) _)
  have h40 : W.heap[w.heap.size + 1]? = some (.cells Tryz.zeroCells33 33 (0, 0)) := by
    have := heap_alloc_new (w.alloc (.cells (u8s x).toArray 29)) (.cells Tryz.zeroCells33 33)
    rw [hsz0] at this
    rw [hW]; exact this
  have HBW := Aside0.mk hBW
  have HX0 := Aside0.mk hx0
  have H40 := Aside0.mk h40
  clear hW hsz0 hBW hx0 h40
  go_wp2
  go_loopg [6] rs.length (fun k v6 w' => ∃ i : Nat, v6 = .int .i64 i ∧ i + k = rs.length ∧ Aside0 (∀ j s, j < i → rs[j]? = some s → s.act ≠ x) ∧ Aside0 (Drawn0 W w'))
  case atStart => exact ⟨0, rfl, by omega, ⟨fun j s h => by omega⟩, ⟨Drawn0.refl _⟩⟩
  case round =>
    obtain ⟨i, rfl, hik, HN, HDr⟩ := hrel
    have h4 : Aside0 (wr.heap[w.heap.size + 1]? = some (.cells Tryz.zeroCells33 33 (0, 0))) := ⟨(HDr.out.below.block _ (blk_lt H40.out)).trans H40.out⟩
    have HBr : Aside0 (Below w.heap.size w wr) := ⟨HBW.out.trans (HDr.out.below.mono HBW.out.size)⟩
    cases gk with
    | zero =>
      have hd : decide (i < rs.length) = false := by simp; omega
      have hi : Aside0 (i = rs.length) := ⟨by omega⟩
      clear hik
      have hz65 : (⟨z32, z32, 0⟩ : Res).act = z32 := rfl
      have hzr : ResOk ⟨z32, z32, 0⟩ := ⟨z32_ok, z32_ok, by decide⟩
      have HZr := Aside0.mk hzr
      clear hz65 hzr
      go_wp2_with (first
        | (refine wpList_store_blk rfl rfl 33 _ _ rfl h4.out (resC ⟨z32, z32, 0⟩) rfl rfl (by rw [z33, resC_length HZr.out]) (by rw [resC_length HZr.out]; exact info33) resC_one ?_; intro w6 s1 s2 s3)
        | go_in)
      (try simp only [Exit.inBlock, Exit.then])
      refine bodyPost_ret (results_ct HZr.out rfl _ _ (w.heap.size + 1) rfl s1) rfl ?_
      refine ⟨⟨_, false, rfl, HZr.out, ⟨fun h => (by cases h), fun ⟨s, hs, he⟩ => ?_⟩⟩, HBr.out.grown s2 HBr.out.size (fun k hk => by cases hk; omega)⟩
      obtain ⟨j, hj⟩ := List.mem_iff_getElem?.1 hs
      exact absurd he (HN.out j s (by have := (List.getElem?_eq_some_iff.1 hj).1; have := hi.out; omega) hj)
    | succ k =>
      have hi : i < rs.length := by omega
      have hi1 : (i : Int) < (rs.length : Int) := by omega
      obtain ⟨ad, r, rfl, hr, ho, hat⟩ := res_at (Kd.C_below HC.out HBr.out) i hi
      have g1 := (res_act hat).id ho.act
      have g2 := hat.res ho
      have g3 := (HX0.out.below HDr.out.below).id Hx.out
      have HR := Aside0.mk hr
      have Ho := Aside0.mk ho
      have Hat := Aside0.mk hat
      clear hat ho hr
      by_cases hin : r.act = x
      · have heq : ∀ u, (Op.equalIn 10000 29 (.agg (u8s r.act).toArray) (.agg (u8s x).toArray)).run Tryz.prog u = .ok true u := fun u => by rw [eqI29 u _ _ Ho.out.act Hx.out, decide_eq_true hin]
        have Hin := Aside0.mk hin
        clear hin
        go_wp2
        go_quiet (fail)
        have h5 : Aside0 ((wr.drewN nq).heap[w.heap.size + 1]? = some (.cells Tryz.zeroCells33 33 (0, 0))) := ⟨((HDr.out.step nq).below.block _ (blk_lt H40.out)).trans H40.out⟩
        have HBq : Aside0 (Below w.heap.size w (wr.drewN nq)) := ⟨HBW.out.trans ((HDr.out.step nq).below.mono HBW.out.size)⟩
        go_wp2_with (first
          | (refine wpList_store_blk rfl rfl 33 _ _ rfl h5.out (resC r) rfl rfl (by rw [z33, resC_length Ho.out]) (by rw [resC_length Ho.out]; exact info33) resC_one ?_; intro w6 s1 s2 s3)
          | go_in)
        (try simp only [Exit.inBlock, Exit.then])
        refine bodyPost_ret (results_ct Ho.out rfl _ _ (w.heap.size + 1) rfl s1) rfl ?_
        exact ⟨⟨_, true, rfl, Ho.out, ⟨fun _ => ⟨r, List.mem_of_getElem? HR.out, Hin.out⟩, fun _ => rfl⟩⟩, HBq.out.grown s2 HBq.out.size (fun k hk => by cases hk; omega)⟩
      · have heq : ∀ u, (Op.equalIn 10000 29 (.agg (u8s r.act).toArray) (.agg (u8s x).toArray)).run Tryz.prog u = .ok false u := fun u => by rw [eqI29 u _ _ Ho.out.act Hx.out, decide_eq_false hin]
        have Hin := Aside0.mk hin
        clear hin
        go_wp2
        go_quiet (fail)
        go_wp2
        go_roundg k
        case measure => omega
        case rel =>
          refine ⟨i + 1, by go_num, by omega, ⟨fun j s hj hs => ?_⟩, ⟨HDr.out.step _⟩⟩
          by_cases hji : j = i
          · subst hji
            rw [HR.out] at hs
            cases hs
            exact Hin.out
          · exact HN.out j s (by omega) hs
end Go.Proofs.YtdekmeanlcpenaaGreatDoor.Mid

namespace Go.Proofs.YtdekmeanlcpenaaGreatDoor.Law
open Go.RowKit Go.Proofs.YtdekmeanlcpenaaGreatDoorW.PrintWords Go.Proofs.YtdekmeanlcpenaaGreatDoor.Mid Go.Proofs.YtdekmeanlcpenaaGreatDoor.Pick Go.Proofs.YtdekmeanlcpenaaGreatDoor.Err
attribute [local go_sem ↓ high] load33_eq load29_eq build69_eq build33_eq build29_eq
attribute [local simp] rowOf_drew rowOf_drewN
attribute [local go_sem high] load33_row load29_row rowOf_drew rowOf_drewN
set_option maxHeartbeats 2000000
set_option maxRecDepth 100000

theorem isFault (v : Value) (w : World) : (Instr.typeAssert (.iface 79 v) 35 79 true).run Tryz.prog w = .ok (.tuple #[v, .bool true]) w := by kernel_rfl
theorem num_any (n : Int) (w : World) : Calls Tryz.prog 33 #[.int .i64 n] w fun e w' => e = .returned (.int .i64 n) ∧ Below w.heap.size w w' := by
  go_enter Tryz.func33, Tryz.ntmps33
  go_wp2
  go_ret
  exact ⟨rfl, Below.refl _ _⟩
theorem told_nil (op name : ByteArray) (id : List Int) (w : World) : Calls Tryz.prog 11 #[.nilIface, .string op, .string name, .int .i64 0, idv id] w fun e w' => e = .returned (.bool true) ∧ Below w.heap.size w w' := by
  go_enter Tryz.func11, Tryz.ntmps11
  go_wp2
  go_ret
  exact ⟨rfl, below_alloc (Below.refl _ _) _⟩
theorem handle_below {w w1 : World} (h : Handle w) (hb : Below w.heap.size w w1) : Handle w1 := by
  have := lt_of_cell h
  unfold Handle at h ⊢
  rw [hb.cell this]; exact h
theorem fault_cells {w : World} {g : Nat} {op name : ByteArray} {id : List Int} {err : Value} (hid : IdOk id) (h : w.heap[g]? = some (.cells (faultC op name id err).toArray 82 (0, 0))) :
    w.cell? ⟨g, 0, none⟩ = some (.string op) ∧ w.cell? ⟨g, 1, none⟩ = some (.string name) ∧ rowOf w ⟨g, 2, none⟩ 32 = some (u8s id) ∧ w.cell? ⟨g, 34, none⟩ = some err := by
  have hl : (u8s id).length = 32 := by rw [u8s_length, hid.len]
  have hat : At w ⟨g, 0, none⟩ (faultC op name id err) := At.blk h
  have h2 : At w ⟨g, 2, none⟩ (u8s id) := by
    intro j v hv
    have hj : j < (u8s id).length := (List.getElem?_eq_some_iff.1 hv).1
    have := hat (2 + j) v (by
      have e : faultC op name id err = [.string op, .string name] ++ (u8s id ++ [err]) := by simp [faultC]
      rw [e, List.getElem?_append_right (by simp), List.getElem?_append_left (by simp; omega)]
      simpa using hv)
    rw [Addr.add_mid] at this ⊢
    rwa [Nat.zero_add] at this
  refine ⟨?_, ?_, h2.id hid, ?_⟩
  · have := hat 0 (.string op) rfl
    rwa [Addr.add_mid] at this
  · have := hat 1 (.string name) rfl
    rwa [Addr.add_mid] at this
  · have := hat 34 err (by
      have e : faultC op name id err = ([.string op, .string name] ++ u8s id) ++ [err] := by simp [faultC]
      rw [e, List.getElem?_append_right (by simp; omega)]
      simp [hl])
    rwa [Addr.add_mid] at this
theorem told_some (op name : ByteArray) (id : List Int) (n : Int) (hn : n ≠ 0) (hid : IdOk id) (g : Nat) (w : World) (hH : Handle w) (hf : w.heap[g]? = some (.cells (faultC op name id (errno n)).toArray 82 (0, 0))) :
    Calls Tryz.prog 11 #[.iface 79 (.pointer (some ⟨g, 0, none⟩)), .string op, .string name, .int .i64 n, idv id] w fun e w' => e = .returned (.bool true) ∧ Below w.heap.size w w' := by
  obtain ⟨W, hW⟩ : ∃ W, W = w.alloc (.cells (u8s id).toArray 29) := ⟨_, rfl⟩
  have hBW : Below w.heap.size w W := hW ▸ below_alloc (Below.refl _ _) _
  have hbx : At W ⟨w.heap.size, 0, none⟩ (u8s id) := hW ▸ At.new w (u8s id) 29
  have hfW : W.heap[g]? = some (.cells (faultC op name id (errno n)).toArray 82 (0, 0)) := (hBW.block _ (blk_lt hf)).trans hf
  have hHW : Handle W := handle_below hH hBW
  have hfx : ∀ x : CW (Since W), x.w.heap[g]? = some (.cells (faultC op name id (errno n)).toArray 82 (0, 0)) := fun x => (x.h.block _ (blk_lt hfW)).trans hfW
  have c0 : ∀ x : CW (Since W), x.w.cell? ⟨g, 0, none⟩ = some (.string op) := fun x => (fault_cells hid (hfx x)).1
  have c1 : ∀ x : CW (Since W), x.w.cell? ⟨g, 1, none⟩ = some (.string name) := fun x => (fault_cells hid (hfx x)).2.1
  have c2 : ∀ x : CW (Since W), rowOf x.w ⟨g, 2, none⟩ 32 = some (u8s id) := fun x => (fault_cells hid (hfx x)).2.2.1
  have c4 : ∀ x : CW (Since W), rowOf x.w ⟨w.heap.size, 0, none⟩ 32 = some (u8s id) := fun x => (hbx.below x.h).id hid
  have c34 : Aside0 (∀ x : CW (Since W), x.w.cell? ⟨g, 34, none⟩ = some (.iface 80 (.int .i64 n))) := ⟨fun x => (fault_cells hid (hfx x)).2.2.2⟩
  have hHx : Aside0 (∀ x : CW (Since W), Handle x.w) := ⟨fun x => handle_below hHW x.h⟩
  have heq : ∀ u, (Op.equalIn 10000 29 (.agg (u8s id).toArray) (.agg (u8s id).toArray)).run Tryz.prog u = .ok true u := fun u => by rw [eqI29 u _ _ hid hid, decide_eq_true rfl]
  have HBW := Aside0.mk hBW
  have HW := Aside0.mk hW
  clear hbx hfW hHW hfx hH hf hBW hW
  have hta := isFault
  unfold idv
  go_enter Tryz.func11, Tryz.ntmps11
  go_wp2
  rw [← HW.out]
  refine wp_region_S (Since W) (by kernel_rfl) (by kernel_rfl) (since_drew W) ?_
  repeat (go_big_quiet_step (first
    | (go_at_call 34; refine calls_since (code_any g n _ (hHx.out _) (c34.out _)))
    | (go_at_call 33; refine calls_since (num_any n _))
    | (go_at_call 35; refine calls_since ((is32 g n _ (c34.out _)).mono (fun e w' ⟨he, hw⟩ => ⟨he, hw ▸ Below.refl _ _⟩)))))
  refine wpQuiet_nil ?_
  rintro w5 ⟨x5, e5⟩
  have hb5 : Since W w5 := e5 ▸ x5.h
  clear e5 x5
  go_wp2
  go_ret
  exact ⟨rfl, HBW.out.trans (hb5.mono HBW.out.size)⟩
end Go.Proofs.YtdekmeanlcpenaaGreatDoor.Law

namespace Go.Proofs.YtdekmeanlcpenaaGreatDoor.Law
open Go.RowKit Go.Proofs.YtdekmeanlcpenaaGreatDoorW.PrintWords Go.Proofs.YtdekmeanlcpenaaGreatDoor.Mid Go.Proofs.YtdekmeanlcpenaaGreatDoor.Pick
attribute [local go_sem ↓ high] load33_eq load29_eq build69_eq build33_eq build29_eq
attribute [local simp] rowOf_drew rowOf_drewN
attribute [local go_sem high] load33_row load29_row rowOf_drew rowOf_drewN bld29_none
set_option maxHeartbeats 2000000
set_option maxRecDepth 100000

/-- restore.Restore's op, and the name that known asks with. -/
def opRestore : ByteArray := { data := #[114, 101, 115, 116, 111, 114, 101, 46, 114, 101, 115, 116, 111, 114, 101] }
def nameF : ByteArray := { data := #[102, 46, 120] }
theorem none_nil (w : World) : Calls Tryz.prog 78 #[.pointer none] w fun e w' => e = .returned (.bool true) ∧ Below w.heap.size w w' := by
  go_enter Tryz.func78, Tryz.ntmps78
  go_wp2
  go_ret
  exact ⟨rfl, Below.refl _ _⟩
theorem off_nil (w : World) : Calls Tryz.prog 38 #[.pointer none] w fun e w' => e = .returned (.bool true) ∧ Below w.heap.size w w' := by
  go_enter Tryz.func38, Tryz.ntmps38
  go_wp2_with (first
    | (go_at_call 78; refine (none_nil _).mono ?_; rintro e w1 ⟨rfl, hb1⟩; have HB1 := Aside0.mk hb1; clear hb1)
    | go_in)
  go_ret
  exact ⟨rfl, HB1.out⟩
theorem disk_nil (w : World) : Calls Tryz.prog 37 #[.pointer none] w fun e w' => e = .returned (.pointer none) ∧ Below w.heap.size w w' := by
  go_enter Tryz.func37, Tryz.ntmps37
  go_wp2
  go_ret
  exact ⟨rfl, Below.refl _ _⟩
theorem clo66 (x : List Int) (hx : IdOk x) (n : Int) (bb : Nat) (nm : ByteArray) (w : World) (hb : w.heap[bb]? = some (.cells #[.string nm] 9 (0, 0))) :
    Calls Tryz.prog 36 #[idv x, errno n, .pointer (some ⟨bb, 0, none⟩)] w fun e w' => (∃ v, e = .returned v ∧ ∃ g, v = .iface 79 (.pointer (some ⟨g, 0, none⟩)) ∧ w.heap.size ≤ g ∧ w'.heap[g]? = some (.cells (faultC opRestore nm x (errno n)).toArray 82 (0, 0))) ∧ Below w.heap.size w w' := by
  obtain ⟨W, hW⟩ : ∃ W, W = w.alloc (.cells (u8s x).toArray 29) := ⟨_, rfl⟩
  have hBW : Below w.heap.size w W := hW ▸ below_alloc (Below.refl _ _) _
  have hbx : rowOf W ⟨w.heap.size, 0, none⟩ 32 = some (u8s x) := (hW ▸ At.new w (u8s x) 29 : At W _ _).id hx
  have hc : W.cell? ⟨bb, 0, none⟩ = some (.string nm) := cell_of_one ((hBW.block _ (blk_lt hb)).trans hb)
  have hbb := fun u => bld69_four u opRestore nm x hx (errno n) rfl
  have HW := Aside0.mk hW
  have HBW := Aside0.mk hBW
  clear hW hBW hb
  unfold opRestore errno at hbb
  unfold idv errno
  go_enter Tryz.func36, Tryz.ntmps36
  go_upto_region 1 with (fail)
  rw [← HW.out]
  go_wp2
  go_ret
  exact ⟨⟨_, rfl, W.heap.size, rfl, HBW.out.size, heap_alloc_new W _⟩, HBW.out.trans ((below_alloc (Below.refl W.heap.size W) _).mono HBW.out.size)⟩
/-- What the restore of a cache that is nil answers. -/
theorem restore_nil (nm : ByteArray) (w : World) :
    Calls Tryz.prog 17 #[.pointer none, .string nm, .slice none 0 0, .int .i64 1] w fun e w' => (∃ v, e = .returned v ∧ ∃ g, v = .iface 79 (.pointer (some ⟨g, 0, none⟩)) ∧ w.heap.size ≤ g ∧ w'.heap[g]? = some (.cells (faultC opRestore nm z32 (errno 50)).toArray 82 (0, 0))) ∧ Below w.heap.size w w' := by
  obtain ⟨W, hW⟩ : ∃ W, W = w.alloc (.cells #[.string nm] 9) := ⟨_, rfl⟩
  have hBW : Below w.heap.size w W := hW ▸ below_alloc (Below.refl _ _) _
  have hc : W.heap[w.heap.size]? = some (.cells #[.string nm] 9 (0, 0)) := hW ▸ heap_alloc_new w _
  have HC := Aside0.mk hc
  have HW := Aside0.mk hW
  have HBW := Aside0.mk hBW
  have hmf : ∀ (fn : Fn) (first cap : Array Value) (w : World), (Instr.makeFunc fn first cap).run Tryz.prog w = .ok (.func fn first cap) w := fun _ _ _ _ => rfl
  clear hW hBW hc
  go_enter Tryz.func17, Tryz.ntmps17
  go_upto_region 1 with (fail)
  rw [← HW.out]
  go_wp2_with (first
    | (go_at_call 37; refine (disk_nil _).mono ?_; rintro e w1 ⟨rfl, hb1⟩; have HB1 := Aside0.mk hb1; clear hb1)
    | (go_at_call 38; refine (off_nil _).mono ?_; rintro e w2 ⟨rfl, hb2⟩; have HB2 := Aside0.mk (HB1.out.trans (hb2.mono HB1.out.size)); clear hb2)
    | (go_at_call 36; refine (clo66 z32 z32_ok 50 w.heap.size nm _ ((HB2.out.block _ (blk_lt HC.out)).trans HC.out)).mono ?_; rintro e w3 ⟨⟨v, rfl, hv⟩, hb3⟩; have HV := Aside0.mk hv; have HB3 := Aside0.mk (HB2.out.trans (hb3.mono HB2.out.size)); have HL := Aside0.mk HB2.out.size; clear hb3 hv)
    | go_in)
  go_ret
  refine ⟨⟨v, rfl, ?_⟩, HBW.out.trans (HB3.out.mono HBW.out.size)⟩
  obtain ⟨g, e, h1, h2⟩ := HV.out
  exact ⟨g, e, Nat.le_trans (Nat.le_trans HBW.out.size HL.out) h1, h2⟩
end Go.Proofs.YtdekmeanlcpenaaGreatDoor.Law

namespace Go.Proofs.YtdekmeanlcpenaaGreatDoor.Law
open Go.RowKit Go.Proofs.YtdekmeanlcpenaaGreatDoorW.PrintWords Go.Proofs.YtdekmeanlcpenaaGreatDoor.Mid Go.Proofs.YtdekmeanlcpenaaGreatDoor.Pick
attribute [local go_sem ↓ high] load33_eq load29_eq build69_eq build33_eq build29_eq
attribute [local simp] rowOf_drew rowOf_drewN
attribute [local go_sem high] load33_row load29_row rowOf_drew rowOf_drewN bld29_none
set_option maxHeartbeats 2000000
set_option maxRecDepth 100000
/-- A cache that has no disk: nil, or a zero one. -/
def NoDisk (w : World) (cp : Value) : Prop := cp = .pointer none ∨ ∃ g, cp = .pointer (some ⟨g, 0, none⟩) ∧ w.cell? ⟨g, 0, none⟩ = some (.pointer none)
theorem NoDisk.below {w w1 : World} {cp : Value} (h : NoDisk w cp) (hb : Below w.heap.size w w1) : NoDisk w1 cp := by
  rcases h with h | ⟨g, h1, h2⟩
  · exact .inl h
  · exact .inr ⟨g, h1, by rw [hb.cell (Err.lt_of_cell h2)]; exact h2⟩
theorem disk_none (cp : Value) (w : World) (h : NoDisk w cp) : Calls Tryz.prog 37 #[cp] w fun e w' => e = .returned (.pointer none) ∧ Below w.heap.size w w' := by
  rcases h with rfl | ⟨g, rfl, hc⟩
  · exact disk_nil w
  · go_enter Tryz.func37, Tryz.ntmps37
    go_wp2
    go_ret
    exact ⟨rfl, Below.refl _ _⟩
/-- A fault, new, of that call, name, id and number. -/
def NewFault (w : World) (op nm : ByteArray) (id : List Int) (n : Int) (e : Ending) (w' : World) : Prop :=
  (∃ v, e = .returned v ∧ ∃ g, v = .iface 79 (.pointer (some ⟨g, 0, none⟩)) ∧ w.heap.size ≤ g ∧ w'.heap[g]? = some (.cells (faultC op nm id (errno n)).toArray 82 (0, 0))) ∧ Below w.heap.size w w'
theorem restore_arg (cp : Value) (nm : ByteArray) (A : Option Addr) (k c : Nat) (pol : Int) (w : World) (hp : pol ≠ 1 ∧ pol ≠ 2 ∧ pol ≠ 3) :
    Calls Tryz.prog 17 #[cp, .string nm, .slice A k c, .int .i64 pol] w (NewFault w opRestore nm z32 1) := by
  obtain ⟨W, hW⟩ : ∃ W, W = w.alloc (.cells #[.string nm] 9) := ⟨_, rfl⟩
  have hBW : Below w.heap.size w W := hW ▸ below_alloc (Below.refl _ _) _
  have hc : W.heap[w.heap.size]? = some (.cells #[.string nm] 9 (0, 0)) := hW ▸ heap_alloc_new w _
  have HC := Aside0.mk hc
  have HW := Aside0.mk hW
  have HBW := Aside0.mk hBW
  have hmf : ∀ (fn : Fn) (first cap : Array Value) (w : World), (Instr.makeFunc fn first cap).run Tryz.prog w = .ok (.func fn first cap) w := fun _ _ _ _ => rfl
  have e1 : (pol == 1) = false := by simpa using hp.1
  have e2 : (pol == 2) = false := by simpa using hp.2.1
  have e3 : (pol == 3) = false := by simpa using hp.2.2
  have f1 : (pol != 1) = true := by simpa using hp.1
  have f2 : (pol != 2) = true := by simpa using hp.2.1
  have f3 : (pol != 3) = true := by simpa using hp.2.2
  clear hW hBW hc hp
  go_enter Tryz.func17, Tryz.ntmps17
  go_upto_region 1 with (fail)
  rw [← HW.out]
  go_wp2_with (first
    | (go_at_call 36; refine (clo66 z32 z32_ok 1 w.heap.size nm _ HC.out).mono ?_; rintro e w3 ⟨⟨v, rfl, hv⟩, hb3⟩; have HV := Aside0.mk hv; have HB3 := Aside0.mk hb3; clear hb3 hv)
    | go_in)
  go_ret
  obtain ⟨g, e, h1, h2⟩ := HV.out
  exact ⟨⟨v, rfl, g, e, Nat.le_trans HBW.out.size h1, h2⟩, HBW.out.trans (HB3.out.mono HBW.out.size)⟩
theorem restore_off (cp : Value) (nm : ByteArray) (A : Option Addr) (k c : Nat) (pol : Int) (w : World) (hN : NoDisk w cp) (hp : pol = 1 ∨ pol = 2 ∨ pol = 3) :
    Calls Tryz.prog 17 #[cp, .string nm, .slice A k c, .int .i64 pol] w (NewFault w opRestore nm z32 50) := by
  obtain ⟨W, hW⟩ : ∃ W, W = w.alloc (.cells #[.string nm] 9) := ⟨_, rfl⟩
  have hBW : Below w.heap.size w W := hW ▸ below_alloc (Below.refl _ _) _
  have hc : W.heap[w.heap.size]? = some (.cells #[.string nm] 9 (0, 0)) := hW ▸ heap_alloc_new w _
  have HC := Aside0.mk hc
  have HW := Aside0.mk hW
  have HBW := Aside0.mk hBW
  have HN := Aside0.mk (hN.below hBW)
  have hmf : ∀ (fn : Fn) (first cap : Array Value) (w : World), (Instr.makeFunc fn first cap).run Tryz.prog w = .ok (.func fn first cap) w := fun _ _ _ _ => rfl
  clear hW hBW hc hN
  rcases hp with rfl | rfl | rfl
  all_goals
    go_enter Tryz.func17, Tryz.ntmps17
    go_upto_region 1 with (fail)
    rw [← HW.out]
    go_wp2_with (first
      | (go_at_call 37; refine (disk_none _ _ HN.out).mono ?_; rintro e w1 ⟨rfl, hb1⟩; have HB1 := Aside0.mk hb1; clear hb1)
      | (go_at_call 38; refine (off_nil _).mono ?_; rintro e w2 ⟨rfl, hb2⟩; have HB2 := Aside0.mk (HB1.out.trans (hb2.mono HB1.out.size)); clear hb2)
      | (go_at_call 36; refine (clo66 z32 z32_ok 50 w.heap.size nm _ ((HB2.out.block _ (blk_lt HC.out)).trans HC.out)).mono ?_; rintro e w3 ⟨⟨v, rfl, hv⟩, hb3⟩; have HV := Aside0.mk hv; have HB3 := Aside0.mk (HB2.out.trans (hb3.mono HB2.out.size)); have HL := Aside0.mk HB2.out.size; clear hb3 hv)
      | go_in)
    go_ret
    refine ⟨⟨v, rfl, ?_⟩, HBW.out.trans (HB3.out.mono HBW.out.size)⟩
    obtain ⟨g, e, h1, h2⟩ := HV.out
    exact ⟨g, e, Nat.le_trans (Nat.le_trans HBW.out.size HL.out) h1, h2⟩
end Go.Proofs.YtdekmeanlcpenaaGreatDoor.Law

namespace Go.Proofs.YtdekmeanlcpenaaGreatDoor.OpenK
open Go.ChangeShapes Go.WideShapes Go.Deep Go.Proofs.YtdekmeanlcpenaaGreatDoorW.PrintWords

/-- Whatever reads as a datum of a type reads as a value of a kind, and the value is good. -/
def Opens {α H : Type} (P : Program) (enc : TypeId × Value → H) (w : World) (d : Kd α) (e : TypeId) (good : α → Prop) : Prop :=
  ∀ (fuel : Nat) (cs : List Value) (x : DataW H × List MemPlace), DataW.trod enc P w 0 (fun _ => true) true fuel e cs = some x → (∀ n ∈ DataW.weights P e x.1, n ≤ reachBytes) → ∃ v, d.K w v cs ∧ good v

theorem opens_int {H : Type} {P : Program} {enc : TypeId × Value → H} {w : World} {e : TypeId} {k : IntKind} (he : P.underlying e = some (.int k)) : Opens P enc w (Kd.int k) e (fun n => (Lit.int k n).wf = true) := by
  intro fuel cs x h _
  obtain ⟨n, rfl, _, hw⟩ := DataW.trod_int he h
  exact ⟨n, rfl, hw⟩

theorem opens_slice {α H : Type} {P : Program} {enc : TypeId × Value → H} {w : World} {d : Kd α} {t e : TypeId} {good : α → Prop} [Inhabited α] (ht : P.underlying t = some (.slice e)) (hc : P.cellsOf e = d.sz) {B : Nat} (hB : P.bytesOf e = B) (h : Opens P enc w d e good) :
    Opens P enc w (Kd.slice e d) t (fun l => l.length * B ≤ 140737488351232 ∧ ∀ x ∈ l, good x) := by
  intro fuel cs x hx hw
  rcases open_slice ht hx with ⟨rfl, _⟩ | ⟨a, len, cap, m, n, D, Pl, rfl, _, hl, hm, rfl, rfl, hi⟩
  · exact ⟨[], ⟨none, 0, rfl, Nat.le_refl _, Kd.C_nil d w⟩, by simp, by simp⟩
  · simp only [] at hi hw
    simp only [DataW.weights, ht] at hw
    have hwl := hw _ (List.mem_cons_self)
    have hwe : ∀ i, i < len → ∀ z ∈ DataW.weights P e (D i), z ≤ reachBytes := by
      intro i hil z hz
      refine hw z (List.mem_cons_of_mem _ (List.mem_append_left _ ?_))
      have key : ∀ (l : List (DataW H)), D i ∈ l → z ∈ DataW.weightsAll P e l := by
        intro l
        induction l with
        | nil => intro h; simp at h
        | cons y r ih =>
          intro h
          rw [DataW.weightsAll, List.mem_append]
          rcases List.mem_cons.1 h with rfl | h
          · exact .inl hz
          · exact .inr (ih h)
      exact key _ (List.mem_map.2 ⟨i, List.mem_range.2 hil, rfl⟩)
    obtain ⟨f, hf⟩ := choose_lt (n := len) (p := fun i v => (∃ cs', w.cells? 0 (a.add (i * P.cellsOf e)) (P.cellsOf e) = some cs' ∧ d.K w v cs') ∧ good v) (fun i hil => by
      obtain ⟨cs', h1, h2⟩ := hi i (by omega)
      obtain ⟨v, hK, hg⟩ := h n cs' _ h2 (hwe i hil)
      exact ⟨v, ⟨cs', h1, hK⟩, hg⟩)
    refine ⟨(List.range len).map f, ⟨some a, m, by simp, by simpa using hl, ?_⟩, ?_, ?_⟩
    · refine ⟨rfl, by simp; unfold maxLen at hm; omega, fun hpos => ⟨a, rfl, fun j p hj => ?_⟩⟩
      simp only [List.length_map, List.length_range] at hpos
      rw [List.getElem?_map] at hj
      obtain ⟨i, hi1, rfl⟩ := Option.map_eq_some_iff.1 hj
      have hjl : j < len := by have := (List.getElem?_eq_some_iff.1 hi1).1; simpa using this
      have hij : i = j := by
        rw [List.getElem?_range hjl] at hi1
        simpa using hi1.symm
      subst hij
      obtain ⟨⟨cs', h1, hK⟩, _⟩ := hf i hjl
      rw [hc] at h1
      obtain ⟨_, hlen, hcell⟩ := World.cells?_some h1
      refine ⟨cs', hlen, hK, fun k u hk => ?_⟩
      have hkl : k < d.sz := by have := (List.getElem?_eq_some_iff.1 hk).1; omega
      rw [← Go.Deep.add_add, hcell k hkl]
      exact hk
    · simp only [List.length_map, List.length_range] at hwl ⊢
      rw [hB] at hwl
      refine Nat.le_trans (Nat.mul_le_mul_right _ ?_) (Nat.le_trans hwl (by decide))
      omega
    · intro x hx
      obtain ⟨i, hi1, rfl⟩ := List.mem_map.1 hx
      exact (hf i (List.mem_range.1 hi1)).2

theorem opens_pair {α β H : Type} {P : Program} {enc : TypeId × Value → H} {w : World} {a : Kd α} {b : Kd β} {e : TypeId} {f0 f1 : Field} {ga : α → Prop} {gb : β → Prop} (hs : P.underlying e = some (.struct #[f0, f1])) (o0 : f0.offset = 0) (o1 : f1.offset = a.sz)
    (c0 : P.cellsOf f0.type = a.sz) (c1 : P.cellsOf f1.type = b.sz) (hc : P.cellsOf e = a.sz + b.sz) (ha : Opens P enc w a f0.type ga) (hb : Opens P enc w b f1.type gb) : Opens P enc w (Kd.pair a b) e (fun x => ga x.1 ∧ gb x.2) := by
  intro fuel cs x h hw
  obtain ⟨y0, y1, n, rfl, hl, h0, h1⟩ := trod_struct2 hs h
  simp only [DataW.weights, hs] at hw
  rw [o0, c0, List.drop_zero] at h0
  rw [o1, c1] at h1
  have hcs : (cs.drop a.sz).take b.sz = cs.drop a.sz := List.take_of_length_le (by simp; omega)
  rw [hcs] at h1
  obtain ⟨v0, hK0, g0⟩ := ha _ _ _ h0 (fun z hz => hw z (by simp [DataW.weightsEach]; exact .inl hz))
  obtain ⟨v1, hK1, g1⟩ := hb _ _ _ h1 (fun z hz => hw z (by simp [DataW.weightsEach]; exact .inr hz))
  exact ⟨(v0, v1), ⟨_, _, (List.take_append_drop _ _).symm, hK0, hK1⟩, g0, g1⟩

/-- Another name of the values. -/
theorem opens_iso {α β H : Type} {P : Program} {enc : TypeId × Value → H} {w : World} {d : Kd α} {e : TypeId} {good : α → Prop} (f : β → α) (g : α → β) (hfg : ∀ x, f (g x) = x) (h : Opens P enc w d e good) : Opens P enc w (Kd.iso d f) e (fun x => good (f x)) := by
  intro fuel cs x hx hw
  obtain ⟨v, hK, hg⟩ := h fuel cs x hx hw
  exact ⟨g v, by show d.K w (f (g v)) cs; rw [hfg]; exact hK, by show good (f (g v)); rw [hfg]; exact hg⟩

/-- A slice among a law's arguments. -/
theorem arg_slice {α H : Type} {P : Program} {enc : TypeId × Value → H} {W : World} {d : Kd α} {t e : TypeId} {good : α → Prop} {B : Nat} {a : Option Addr} {len cap : Nat} {x : DataW H} {ps : List MemPlace} {ts : List TypeId} {ds : List (DataW H)} {j : Nat}
    (ho : Opens P enc W (Kd.slice e d) t (fun l => l.length * B ≤ 140737488351232 ∧ ∀ x ∈ l, good x)) (hsz : (DataW.weightsEach P ts ds).all (· ≤ reachBytes) = true) (ht : ts[j]? = some t) (hd : ds[j]? = some x)
    (h : DataW.Trod enc P W 0 (fun _ => true) true t (.slice a len cap) x ps) : ∃ l : List α, len = l.length ∧ l.length ≤ cap ∧ d.C W a l.length l ∧ l.length * B ≤ 140737488351232 ∧ ∀ x ∈ l, good x := by
  obtain ⟨fuel, hf⟩ := h
  obtain ⟨l, ⟨A, c, e1, h1, h2⟩, h3, h4⟩ := ho fuel _ _ hf (fun n hn => by
    have := List.all_eq_true.1 hsz _ (DataW.weights_mem_each ht hd n hn)
    simpa using this)
  simp [Value.cells] at e1
  obtain ⟨rfl, rfl, rfl⟩ := e1
  exact ⟨l, rfl, h1, h2, h3, h4⟩

end Go.Proofs.YtdekmeanlcpenaaGreatDoor.OpenK
