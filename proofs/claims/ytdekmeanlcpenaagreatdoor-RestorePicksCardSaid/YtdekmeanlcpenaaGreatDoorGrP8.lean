import Derived.Test.YtdekmeanlcpenaaGreatDoorGrP5
import Derived.Test.YtdekmeanlcpenaaGreatDoorGrP7
import Derived.OrdersHeld
import Derived.StillTail
namespace Go.Proofs.YtdekmeanlcpenaaGreatDoor.Mid
open Go.RowKit Go.Proofs.YtdekmeanlcpenaaGreatDoorW.PrintWords
attribute [local go_sem ↓ high] load33_eq load29_eq build33_eq build29_eq
attribute [local simp] rowOf_drew rowOf_drewN
attribute [local go_sem high] load33_row load29_row rowOf_drew rowOf_drewN bld33_none bld29_none
set_option maxHeartbeats 2000000
set_option maxRecDepth 100000

/-- What the document's Pick answers. -/
structure RetRPick (rs : List Res) (qs : List (List Int)) (base : Nat) (e : Ending) (w' : World) : Prop where
  out : ∃ (v : Value) (out : List Res) (n : Int) (id : List Int), e = .returned (.tuple #[v, .int .i64 n, idv id]) ∧ Picked rs qs out n id ∧ resK.R 33 w' base (fun _ => True) v out ∧ IdOk id

theorem rpick_any (A : Option Addr) (c : Nat) (rs : List Res) (A2 : Option Addr) (c2 : Nat) (qs : List (List Int)) (w : World) (hC : resK.C w A rs.length rs) (hD : idK.C w A2 qs.length qs) (hc : rs.length ≤ c) (ok : ∀ r ∈ rs, ResOk r) (oka : ∀ a ∈ qs, IdOk a)
    (hl : rs.length ≤ 1000000) (hca : qs.length ≤ 1000000) :
    Calls Tryz.prog 8 #[.slice A rs.length c, .slice A2 qs.length c2] w fun e w' => RetRPick rs qs w.heap.size e w' ∧ Below w.heap.size w w' := by
  have HC := Aside0.mk hC
  have HD := Aside0.mk hD
  have HO := Aside0.mk ok
  have HOA := Aside0.mk oka
  have Hc := Aside0.mk hc
  clear hC hD ok oka hc
  have z0 : ∀ w1 : World, Below (w.heap.size + 1) (w.alloc (.cells (u8s z32).toArray 29)) w1 → Below w.heap.size w w1 ∧ w1.heap[w.heap.size]? = some (.cells (u8s z32).toArray 29 (0, 0)) := by
    intro w1 hb
    exact ⟨(below_alloc (Below.refl w.heap.size w) _).trans (hb.mono (by omega)), (hb.block _ (by omega)).trans (heap_alloc_new w _)⟩
  have hsz0 : (w.alloc (.cells (u8s z32).toArray 29)).heap.size = w.heap.size + 1 := by simp
  have Z0 := Aside0.mk z0
  have Hsz0 := Aside0.mk hsz0
  clear z0 hsz0
  by_cases hT : Table rs
  · have HT := Aside0.mk hT
    clear hT
    have hmo : rs.length ≤ 32 := HT.out.most
    go_enter Tryz.func8, Tryz.ntmps8
    go_upto_region 5 with (first
      | (go_at_call 28; refine (ref_valid A c rs (w.alloc (.cells (u8s z32).toArray 29)) (Kd.C_below HC.out (below_alloc (Below.refl _ _) _)) Hc.out (by omega)).mono ?_; rintro e w1 ⟨⟨q, rfl, hq⟩, hb1⟩; have hqt : q = true := hq.2 HT.out; subst hqt; have HB1 := Aside0.mk (Z0.out w1 (Hsz0.out ▸ hb1)); clear hq hb1)
      | (refine store29_new rfl rfl _ _ rfl _ rfl z32 z32_ok rfl rfl ?_)
      | go_in)
    have hb8 : w.heap.size < w1.heap.size := blk_lt HB1.out.2
    have hi0 : Aside0 (Below w.heap.size w (w1.alloc (.cells (u8s z32).toArray 29)) ∧ (w1.alloc (.cells (u8s z32).toArray 29)).heap[w.heap.size]? = some (.cells (u8s z32).toArray 29 (0, 0)) ∧ (w1.alloc (.cells (u8s z32).toArray 29)).heap[w1.heap.size]? = some (.cells (u8s z32).toArray 29 (0, 0))) := ⟨HB1.out.1.trans ((below_alloc (Below.refl _ _) _).mono HB1.out.1.size), (heap_alloc_old w1 _ hb8).trans HB1.out.2, heap_alloc_new w1 _⟩
    have Hb8 := Aside0.mk hb8
    clear HB1 hb8 Z0 Hsz0
    go_wp2
    go_loopg [9, 7] qs.length (fun k v9 v7 w' => ∃ (i : Nat) (lacks : Bool) (least : List Int), v9 = .int .i64 i ∧ v7 = .bool lacks ∧ i + k = qs.length ∧ Aside0 (Seek rs qs i lacks least) ∧ Aside0 (IdOk least) ∧ Aside0 (Below w.heap.size w w' ∧ w'.heap[w.heap.size]? = some (.cells (u8s z32).toArray 29 (0, 0)) ∧ w'.heap[w1.heap.size]? = some (.cells (u8s least).toArray 29 (0, 0))))
    case atStart => exact ⟨0, false, z32, rfl, rfl, by omega, ⟨seek_start rs qs⟩, ⟨z32_ok⟩, hi0⟩
    case round =>
      clear hi0
      obtain ⟨i, lacks, least, rfl, rfl, hik, HS, Hlo, HI⟩ := hrel
      cases gk with
      | zero =>
        have hd : decide (i < qs.length) = false := by simp; omega
        have hi : Aside0 (qs.length ≤ i) := ⟨by omega⟩
        clear hik
        have Hse := Aside0.mk (seek_end HS.out hi.out)
        clear HS
        cases lacks with
        | true =>
          have HLe := Aside0.mk (Hse.out.2 rfl)
          clear Hse
          go_wp2
          have hthere : wr.drew.there w.heap.size 0 32 := by
            intro j hj
            rw [Nat.zero_add]
            have hb : wr.drew.heap[w.heap.size]? = some (.cells (u8s z32).toArray 29 (0, 0)) := HI.out.2.1
            refine ⟨?_, blk_frozen hb _⟩
            rw [blk_cell hb]
            simp [u8s, z32]; omega
          have hi29 : (Tryz.prog.info? 29).map (·.size) = some (u8s least).length := by rw [u8s_length, Hlo.out.len]; exact info29
          have hlen29 : (u8s least).length = 32 := by rw [u8s_length, Hlo.out.len]
          have hone : ∀ v ∈ u8s least, v.oneCell' = true := u8s_one
          have hrange : wr.drew.rangeAt w1.heap.size 0 (u8s least) := (At.blk HI.out.2.2).range
          have hu29 := Tryz.underlying29
          have hap : w1.heap.size ≠ w.heap.size := by have := Hb8.out; omega
          go_region_held3 (fun w' => w'.rangeAt w1.heap.size 0 (u8s least) ∧ w'.there w.heap.size 0 32) (first | go_keep_ranges | exact ⟨hrange, hthere⟩ | exact ⟨World.rangeAt_setCells_apart hrange _ _ (.inl hap), World.there_setCells hthere _ _ _⟩) (fail)
          go_wp2
          have hz : wr.drew.heap[w.heap.size]? = some (.cells (u8s z32).toArray 29 (0, 0)) := HI.out.2.1
          obtain ⟨s1, s2, _⟩ := setCells_blk wr.drew hz (cs := u8s least) (by simp [u8s_length, Hlo.out.len, z32])
          have hb2 : Below w.heap.size w wr.drew := HI.out.1.drew
          (try simp only [Exit.inBlock, Exit.then])
          refine bodyPost_ret (results_ttc Hlo.out rfl _ _ w.heap.size rfl s1) rfl ?_
          exact ⟨⟨_, [], 96, least, rfl, ⟨fun h => absurd HT.out h, fun _ h => absurd HLe.out.1 (h least), fun _ _ => ⟨rfl, rfl, HLe.out⟩⟩, Kd.R_nil resK 33 _ _ _, Hlo.out⟩, hb2.grown s2 hb2.size (fun k hk => by cases hk; omega)⟩
        | false =>
          have HNo := Aside0.mk (Hse.out.1 rfl)
          clear Hse
          have HJ : Aside0 (Below w.heap.size w wr ∧ wr.heap[w.heap.size]? = some (.cells (u8s z32).toArray 29 (0, 0))) := ⟨HI.out.1, HI.out.2.1⟩
          have HR0 := Aside0.mk (Kd.R_nil resK 33 wr w.heap.size (fun _ => True))
          clear HI Hlo
          go_wp2
          go_loopg [13, 12] rs.length (fun k v13 v12 w' => ∃ (i2 : Nat), v13 = .int .i64 i2 ∧ i2 + k = rs.length ∧ Aside0 (Below w.heap.size w w' ∧ w'.heap[w.heap.size]? = some (.cells (u8s z32).toArray 29 (0, 0))) ∧ Aside0 (resK.R 33 w' w.heap.size (fun _ => True) v12 (pickS (rs.take i2) qs)))
          case atStart => exact ⟨0, rfl, by omega, HJ, HR0⟩
          case round =>
            clear HJ HR0
            obtain ⟨i2, rfl, hik2, HJ, HR⟩ := hrel
            cases gk with
            | zero =>
              have hd2 : decide (i2 < rs.length) = false := by simp; omega
              have hi2 : Aside0 (rs.length ≤ i2) := ⟨by omega⟩
              clear hik2
              obtain ⟨A12, k12, e12⟩ := Kd.R_slice HR.out
              subst e12
              go_wp2_with (first
                | (refine wpList_store_blk rfl rfl 29 _ _ rfl HJ.out.2 (u8s z32) rfl rfl rfl info29 u8s_one ?_; intro w6 s1 s2 s3)
                | go_in)
              (try simp only [Exit.inBlock, Exit.then])
              refine bodyPost_ret (results_ttc z32_ok rfl _ _ w.heap.size rfl s1) rfl ?_
              refine ⟨⟨_, pickS rs qs, 0, z32, rfl, ⟨fun h => absurd HT.out h, fun _ _ => ⟨rfl, rfl, rfl⟩, fun _ ⟨a, ha⟩ => absurd ha (HNo.out.1 a)⟩, ?_, z32_ok⟩, HJ.out.1.grown s2 HJ.out.1.size (fun k hk => by cases hk; omega)⟩
              have hR := HR.out
              have hall : pickS (rs.take i2) qs = pickS rs qs := pick_all hi2.out
              rw [← hall]
              refine R_off rfl hR s2 (fun k hk e => ?_)
              obtain ⟨cells, hc⟩ := Kd.R_typed hR k hk
              cases e
              rw [HJ.out.2] at hc
              cases hc
            | succ k =>
              have hi2 : i2 < rs.length := by omega
              have hi3 : (i2 : Int) < (rs.length : Int) := by omega
              obtain ⟨ad, r, e1, hr, hro, hat⟩ := res_at (Kd.C_below HC.out HJ.out.1) i2 hi2
              subst e1
              have Hr := Aside0.mk hr
              have Hro := Aside0.mk hro
              have Hat := Aside0.mk hat
              clear hr hro hat
              obtain ⟨A12, k12, e12⟩ := Kd.R_slice HR.out
              subst e12
              go_wp2
              obtain ⟨wC, hwC⟩ : ∃ wC, wC = wr := ⟨_, rfl⟩
              subst hwC
              go_loopg [15, 14] qs.length (fun k v15 v14 w' => ∃ (j : Nat) (asked : Bool), v15 = .int .i64 j ∧ v14 = .bool asked ∧ j + k = qs.length ∧ Aside0 (asked = true ↔ r.act ∈ qs.take j) ∧ Aside0 (Drawn0 wC w'))
              case atStart => exact ⟨0, false, rfl, rfl, by omega, ⟨by simp⟩, ⟨Drawn0.refl _⟩⟩
              case round =>
                obtain ⟨j, asked, rfl, rfl, hjk, HAs, HDr⟩ := hrel
                have HJr : Aside0 (Below w.heap.size w wr ∧ wr.heap[w.heap.size]? = some (.cells (u8s z32).toArray 29 (0, 0))) := ⟨HJ.out.1.trans (HDr.out.below.mono HJ.out.1.size), (HDr.out.below.block _ (blk_lt HJ.out.2)).trans HJ.out.2⟩
                have HRr := Aside0.mk (Kd.R_below HR.out HDr.out.below)
                have hatr := Hat.out.below HDr.out.below
                cases gk with
                | zero =>
                  have hd2 : decide (j < qs.length) = false := by simp; omega
                  have hj : Aside0 (qs.length ≤ j) := ⟨by omega⟩
                  clear hjk
                  have hld := hatr.res Hro.out
                  have Hatr := Aside0.mk hatr
                  clear hatr
                  cases asked with
                  | true =>
                    have Hin : Aside0 (r.act ∈ qs) := ⟨by have := HAs.out.1 rfl; rwa [List.take_of_length_le hj.out] at this⟩
                    obtain ⟨z, hz1, hz2⟩ := info33full
                    have Hz := Aside0.mk (And.intro hz1 hz2)
                    clear hz1 hz2
                    have hlen : Aside0 ((pickS (rs.take i2) qs).length + 1 ≤ 33) := ⟨by have h1 : (pickS (rs.take i2) qs).length ≤ (rs.take i2).length := pick_length; have h2 := HT.out.most; rw [List.length_take] at h1; omega⟩
                    go_wp2_with (first
                      | (refine wpList_build33 rfl _ rfl r Hro.out rfl ?_)
                      | (at_builtin; refine Kd.R_append resK (w0 := w) w.heap.size rfl (.tmp 83) (.tmp 88) 22 33 z 72 rfl Tryz.underlying22 Hz.out.1 Hz.out.2 (by decide) (by decide) _ (pickS (rs.take i2) qs) r (resC r) (fun _ => True) (fun _ => False) rfl rfl (res_M Hro.out) (fun _ h => h.elim) (fun _ _ => trivial) HRr.out HJr.out.1 HJr.out.1.size (by have := hlen.out; omega) ?_;
                         intro v3 w3 h1 h2 h3 h4)
                      | go_in)
                    go_roundg k
                    case measure => omega
                    case rel =>
                      refine ⟨i2 + 1, by go_num, by omega, ⟨h2, (h3.block _ (blk_lt HJr.out.2) (fun e => ?_)).trans HJr.out.2⟩, ⟨by rw [pick_in Hr.out Hin.out]; exact h1⟩⟩
                      obtain ⟨cs, hcs⟩ := Kd.R_typed HRr.out _ e.symm
                      rw [HJr.out.2] at hcs
                      cases hcs
                  | false =>
                    have Hin : Aside0 (r.act ∉ qs) := ⟨fun h => by have := HAs.out.2 (by rwa [List.take_of_length_le hj.out]); cases this⟩
                    go_wp2
                    go_roundg k
                    case measure => omega
                    case rel => exact ⟨i2 + 1, by go_num, by omega, HJr, ⟨by rw [pick_out Hr.out Hin.out]; exact HRr.out⟩⟩
                | succ n =>
                  have hj : j < qs.length := by omega
                  have hj1 : (j : Int) < (qs.length : Int) := by omega
                  obtain ⟨ad2, a, e2, ha, hia, ha2⟩ := id_at (Kd.C_below HD.out HJr.out.1) j hj
                  subst e2
                  have g1 := (res_act hatr).id Hro.out.act
                  have g2 := ha2.id hia
                  have Ha := Aside0.mk ha
                  have Hia := Aside0.mk hia
                  have Hmem := Aside0.mk (fun b => mem_take_succ ha b)
                  clear ha hia ha2 hatr
                  cases asked with
                  | true =>
                    go_wp2
                    go_quiet (fail)
                    go_wp2
                    go_roundg n
                    case measure => omega
                    case rel => exact ⟨j + 1, true, by go_num, rfl, by omega, ⟨fun _ => (Hmem.out _).2 (.inl (HAs.out.1 (by trivial))), fun _ => rfl⟩, ⟨HDr.out.step _⟩⟩
                  | false =>
                    by_cases hin : a = r.act
                    · have heq : ∀ u, (Op.equalIn 10000 29 (.agg (u8s a).toArray) (.agg (u8s r.act).toArray)).run Tryz.prog u = .ok true u := fun u => by rw [eqI29 u _ _ Hia.out Hro.out.act, decide_eq_true hin]
                      have Hin := Aside0.mk hin
                      clear hin
                      go_wp2
                      go_quiet (fail)
                      go_wp2
                      go_roundg n
                      case measure => omega
                      case rel => exact ⟨j + 1, true, by go_num, rfl, by omega, ⟨fun _ => (Hmem.out _).2 (.inr Hin.out.symm), fun _ => rfl⟩, ⟨HDr.out.step _⟩⟩
                    · have heq : ∀ u, (Op.equalIn 10000 29 (.agg (u8s a).toArray) (.agg (u8s r.act).toArray)).run Tryz.prog u = .ok false u := fun u => by rw [eqI29 u _ _ Hia.out Hro.out.act, decide_eq_false hin]
                      have Hin := Aside0.mk hin
                      clear hin
                      go_wp2
                      go_quiet (fail)
                      go_wp2
                      go_roundg n
                      case measure => omega
                      case rel => exact ⟨j + 1, false, by go_num, rfl, by omega, ⟨fun h => (by cases h), fun h => by rcases (Hmem.out _).1 h with h | h; exact HAs.out.2 h; exact absurd h.symm Hin.out⟩, ⟨HDr.out.step _⟩⟩
      | succ k =>
        have hi : i < qs.length := by omega
        have hi1 : (i : Int) < (qs.length : Int) := by omega
        obtain ⟨ad, a, e1, ha, hia, hat⟩ := id_at (Kd.C_below HD.out HI.out.1) i hi
        subst e1
        have hld := hat.id hia
        have Ha := Aside0.mk ha
        have Hia := Aside0.mk hia
        have Hat := Aside0.mk hat
        clear ha hia hat
        go_upto_region 9 with (first
          | (go_at_call 29; refine (find_any A c rs a wr (Kd.C_below HC.out HI.out.1) Hia.out (by omega)).mono ?_; rintro e w2 ⟨⟨r, q, rfl, hro, hq⟩, hb2⟩; have Hro := Aside0.mk hro; have Hq := Aside0.mk hq; have Hb2 := Aside0.mk hb2; clear hro hq hb2)
          | (refine store33_new rfl rfl _ _ rfl r Hro.out rfl rfl ?_)
          | go_in)
        obtain ⟨W, hW⟩ : ∃ W, W = w2.alloc (.cells (resC r).toArray 33) := ⟨_, rfl⟩
        rw [← hW]
        have hBW : Below wr.heap.size wr W := hW ▸ Hb2.out.trans ((below_alloc (Below.refl _ _) _).mono Hb2.out.size)
        have hI2 : Aside0 (Below w.heap.size w W ∧ W.heap[w.heap.size]? = some (.cells (u8s z32).toArray 29 (0, 0)) ∧ W.heap[w1.heap.size]? = some (.cells (u8s least).toArray 29 (0, 0))) := ⟨HI.out.1.trans (hBW.mono HI.out.1.size), (hBW.block _ (blk_lt HI.out.2.1)).trans HI.out.2.1, (hBW.block _ (blk_lt HI.out.2.2)).trans HI.out.2.2⟩
        have hatW : Aside0 (At W (ad.add (i * 32)) (u8s a)) := ⟨Hat.out.below hBW⟩
        have g1 : ∀ x : CW (Since W), rowOf x.w (ad.add (i * 32)) 32 = some (u8s a) := fun x => (hatW.out.below x.h).id Hia.out
        have g2 : ∀ x : CW (Since W), rowOf x.w ⟨w1.heap.size, 0, none⟩ 32 = some (u8s least) := fun x => ((At.blk hI2.out.2.2).below x.h).id Hlo.out
        have step : ∀ w5 : World, Since W w5 → Aside0 (Below w.heap.size w w5 ∧ w5.heap[w.heap.size]? = some (.cells (u8s z32).toArray 29 (0, 0)) ∧ w5.heap[w1.heap.size]? = some (.cells (u8s least).toArray 29 (0, 0))) := fun w5 h5 => ⟨below_of hI2.out.1 h5 (Nat.le_refl _), (h5.block _ (blk_lt hI2.out.2.1)).trans hI2.out.2.1, (h5.block _ (blk_lt hI2.out.2.2)).trans hI2.out.2.2⟩
        have Hst := Aside0.mk step
        clear hW hBW step HI Hb2
        cases q with
        | true =>
          have Hex : Aside0 (∃ s ∈ rs, s.act = a) := ⟨Hq.out.1 rfl⟩
          go_wp2
          refine wp_region_S (Since W) (by kernel_rfl) (by kernel_rfl) (since_drew W) ?_
          repeat (go_big_quiet_step (fail))
          refine wpQuiet_nil ?_
          rintro w5 ⟨x5, e5⟩
          have hb5 : Since W w5 := e5 ▸ x5.h
          clear e5 x5
          go_wp2
          go_roundg k
          case measure => omega
          case rel => exact ⟨i + 1, lacks, least, by go_num, rfl, by omega, ⟨seek_there HS.out Ha.out Hex.out⟩, Hlo, Hst.out w5 hb5⟩
        | false =>
          have Hnx : Aside0 (∀ s ∈ rs, s.act ≠ a) := ⟨fun s hs e => by have := Hq.out.2 ⟨s, hs, e⟩; cases this⟩
          cases lacks with
          | false =>
            go_wp2
            refine wp_region_S (Since W) (by kernel_rfl) (by kernel_rfl) (since_drew W) ?_
            repeat (go_big_quiet_step (fail))
            refine wpQuiet_nil ?_
            rintro w5 ⟨x5, e5⟩
            have hb5 : Since W w5 := e5 ▸ x5.h
            clear e5 x5
            have hI5 := Hst.out w5 hb5
            have hld5 := (hatW.out.below hb5).id Hia.out
            have hb5' := Aside0.mk hb5
            clear hb5
            go_wp2_with (first
              | (refine wpList_store_blk rfl rfl 29 _ _ rfl hI5.out.2.2 (u8s a) rfl rfl (by simp [u8s_length, Hia.out.len, Hlo.out.len]) (by rw [u8s_length, Hia.out.len]; exact info29) u8s_one ?_; intro w6 s1 s2 s3)
              | go_in)
            go_roundg k
            case measure => omega
            case rel => exact ⟨i + 1, true, a, by go_num, rfl, by omega, ⟨seek_new HOA.out HS.out Ha.out Hnx.out (.inl rfl)⟩, Hia, ⟨hI5.out.1.grown s2 hI5.out.1.size (fun k hk => by cases hk; have := Hb8.out; omega), (s2.block _ (blk_lt hI5.out.2.1) (by have := Hb8.out; simp; omega)).trans hI5.out.2.1, s1⟩⟩
          | true =>
            by_cases hc : cmp a least < 0
            · have Hcm := Aside0.mk hc
              go_wp2
              refine wp_region_S (Since W) (by kernel_rfl) (by kernel_rfl) (since_drew W) ?_
              repeat (go_big_quiet_step (first | (go_at_call 30; refine calls_since (compare_any _ a least Hia.out Hlo.out))))
              refine wpQuiet_nil ?_
              rintro w5 ⟨x5, e5⟩
              have hb5 : Since W w5 := e5 ▸ x5.h
              clear e5 x5
              have hI5 := Hst.out w5 hb5
              have hld5 := (hatW.out.below hb5).id Hia.out
              have hb5' := Aside0.mk hb5
              clear hb5
              go_wp2_with (first
                | (refine wpList_store_blk rfl rfl 29 _ _ rfl hI5.out.2.2 (u8s a) rfl rfl (by simp [u8s_length, Hia.out.len, Hlo.out.len]) (by rw [u8s_length, Hia.out.len]; exact info29) u8s_one ?_; intro w6 s1 s2 s3)
                | go_in)
              go_roundg k
              case measure => omega
              case rel => exact ⟨i + 1, true, a, by go_num, rfl, by omega, ⟨seek_new HOA.out HS.out Ha.out Hnx.out (.inr Hcm.out)⟩, Hia, ⟨hI5.out.1.grown s2 hI5.out.1.size (fun k hk => by cases hk; have := Hb8.out; omega), (s2.block _ (blk_lt hI5.out.2.1) (by have := Hb8.out; simp; omega)).trans hI5.out.2.1, s1⟩⟩
            · have hc1 : decide (cmp a least < 0) = false := by simpa using hc
              have Hcm : Aside0 (¬ cmp a least < 0) := ⟨hc⟩
              clear hc
              go_wp2
              refine wp_region_S (Since W) (by kernel_rfl) (by kernel_rfl) (since_drew W) ?_
              repeat (go_big_quiet_step (first | (go_at_call 30; refine calls_since (compare_any _ a least Hia.out Hlo.out))))
              refine wpQuiet_nil ?_
              rintro w5 ⟨x5, e5⟩
              have hb5 : Since W w5 := e5 ▸ x5.h
              clear e5 x5
              go_wp2
              go_roundg k
              case measure => omega
              case rel => exact ⟨i + 1, true, least, by go_num, rfl, by omega, ⟨seek_old HS.out Ha.out (by have := Hcm.out; omega)⟩, Hlo, Hst.out w5 hb5⟩
  · have HT := Aside0.mk hT
    clear hT
    go_enter Tryz.func8, Tryz.ntmps8
    go_wp2_with (first
      | (go_at_call 28; refine (ref_valid A c rs (w.alloc (.cells (u8s z32).toArray 29)) (Kd.C_below HC.out (below_alloc (Below.refl _ _) _)) Hc.out (by omega)).mono ?_; rintro e w1 ⟨⟨q, rfl, hq⟩, hb1⟩; have hqf : q = false := (by cases q with | false => rfl | true => exact absurd (hq.1 rfl) HT.out); subst hqf; have HB1 := Aside0.mk (Z0.out w1 (Hsz0.out ▸ hb1)); clear hq hb1)
      | (refine wpList_store_blk rfl rfl 29 _ _ rfl HB1.out.2 (u8s z32) rfl rfl rfl info29 u8s_one ?_; intro w6 s1 s2 s3)
      | go_in)
    (try simp only [Exit.inBlock, Exit.then])
    refine bodyPost_ret (results_ttc z32_ok rfl _ _ w.heap.size rfl s1) rfl ?_
    exact ⟨⟨_, [], 1, z32, rfl, ⟨fun _ => ⟨rfl, rfl, rfl⟩, fun h => absurd h HT.out, fun h => absurd h HT.out⟩, Kd.R_nil resK 33 _ _ _, z32_ok⟩, HB1.out.1.grown s2 HB1.out.1.size (fun k hk => by cases hk; omega)⟩
end Go.Proofs.YtdekmeanlcpenaaGreatDoor.Mid

namespace Go.Proofs.YtdekmeanlcpenaaGreatDoor.Sep
section
variable {P : Program} {ops : Array Oper} {Q : Exit → Act → World → Prop} {md : Region.Mode} {S : World → Prop} {n : Nat}
/-- Whatever order is picked, and S holds behind each operation but number n (which waits for all whose value hangs on S). -/
def wpAnyK (P : Program) (md : Region.Mode) (ops : Array Oper) (Q : Exit → Act → World → Prop) (S : World → Prop) (n : Nat) : Nat → Array Bool → Act → World → Prop
  | 0, listed, a, w => Region.ready md ops listed = [] ∧ Q .normal a w
  | fuel + 1, listed, a, w => (Region.ready md ops listed = [] → Q .normal a w) ∧ ∀ i ∈ Region.ready md ops listed, wpOp P ops Q i (fun a' w' => (i ≠ n → S w') ∧ wpAnyK P md ops Q S n fuel (listed.setIfInBounds i true) a' w') a w
theorem wpAny_of_K : ∀ (fuel : Nat) (listed : Array Bool) (a : Act) (w : World), wpAnyK P md ops Q S n fuel listed a w → wpAny P md ops Q fuel listed a w
  | 0, _, _, _, h => h
  | fuel + 1, _, _, _, h => ⟨h.1, fun i hi => wpOp_mono (fun a' w' h' => wpAny_of_K fuel _ a' w' h'.2) (h.2 i hi)⟩

theorem not_ready_of_waits {listed : Array Bool} {i : Nat} (hw : Region.waitsFor md ops n i = true) (hun : listed.getD i true = false) : n ∉ Region.ready md ops listed := by
  intro hr
  obtain ⟨oj, hoj, e, he, hb, hon⟩ := Region.waitsFor_spec hw
  obtain ⟨-, o', ho', hall⟩ := mem_ready.1 hr
  have : o' = oj := Option.some.inj (ho'.symm.trans hoj)
  subst this
  have h2 := hall e he hb
  rw [hon, getD_both hun] at h2
  cases h2

theorem wpAnyK_first {i : Nat} {oi : Oper} {v : Value} (hi : ops[i]? = some oi) (hwn : Region.waitsFor md ops n i = true) (hsel : ∀ (j : Nat) (o : Oper) cs b, ops[j]? = some o → o.op ≠ .select cs b)
    (hQ : ∀ c a w, Q (.panic c) (a.put oi.dst v) w → Q (.panic c) a w) :
    ∀ (fuel : Nat) (listed : Array Bool) (a : Act) (w : World),
      (∀ j oj, ops[j]? = some oj → j ≠ i → listed.getD j true = false → (∀ e ∈ oj.after, Region.binds md e = true → e.on ≠ i) → oi.apart ops oj = true) →
      i ∈ Region.ready md ops listed → i ≠ n → YieldsIf P ops S oi v a → S w →
      wpAnyK P md ops Q S n fuel (listed.setIfInBounds i true) (a.put oi.dst v) w → wpAnyK P md ops Q S n (fuel + 1) listed a w := by
  intro fuel
  induction fuel with
  | zero =>
    intro listed a w _ hr hin hy hS H
    refine ⟨fun h => (by rw [h] at hr; cases hr), fun j hj => ?_⟩
    by_cases hji : j = i
    · subst hji; exact hy.wpOp hi hS ⟨fun _ => hS, H⟩
    · have h1 := ready_mono hj hji
      rw [H.1] at h1
      cases h1
  | succ fuel ih =>
    intro listed a w hfree hr hin hy hS H
    have hun := (mem_ready.1 hr).1
    refine ⟨fun h => (by rw [h] at hr; cases hr), fun j hj => ?_⟩
    by_cases hji : j = i
    · subst hji; exact hy.wpOp hi hS ⟨fun _ => hS, H⟩
    · have hjn : j ≠ n := fun e => not_ready_of_waits hwn hun (e ▸ hj)
      have h1 := H.2 j (ready_mono hj hji)
      obtain ⟨hjun, oj, hoj, hall⟩ := mem_ready.1 hj
      have hnot : ∀ e ∈ oj.after, Region.binds md e = true → e.on ≠ i := fun e he hb heq => by
        have h2 := hall e he hb
        rw [heq, getD_both hun] at h2
        cases h2
      have h2 := wpOp_putIf hoj (hfree j oj hoj hji hjun hnot) (fun cs b => hsel i oi cs b hi) (fun cs b => hsel j oj cs b hoj) hQ hy h1
      refine wpOp_mono (fun a' w' h3 => ⟨h3.2.1, ih (listed.setIfInBounds j true) a' w' (fun k ok hk hki hunk hno => ?_) (ready_mono hr (Ne.symm hji)) hin h3.1 (h3.2.1 hjn) ?_⟩) h2
      · refine hfree k ok hk hki ?_ hno
        by_cases hjk : j = k
        · subst hjk; exact hjun
        · rw [getD_set_ne true hjk] at hunk; exact hunk
      · rw [Array.setIfInBounds_comm _ _ hji]
        exact h3.2.2

theorem wpAnyK_take {i : Nat} {oi : Oper} {v : Value} {fuel : Nat} {listed : Array Bool} {a : Act} {w : World} (hi : ops[i]? = some oi) (hwn : Region.waitsFor md ops n i = true) (hin : i ≠ n)
    (hs : Region.noSelect ops = true) (hf : Region.free md ops listed i = true) (hr : (Region.ready md ops listed).contains i = true)
    (hQ : ∀ c a w, Q (.panic c) (a.put oi.dst v) w → Q (.panic c) a w) (hy : YieldsIf P ops S oi v a) (hS : S w)
    (h : wpAnyK P md ops Q S n fuel (listed.setIfInBounds i true) (a.put oi.dst v) w) : wpAnyK P md ops Q S n (fuel + 1) listed a w :=
  wpAnyK_first hi hwn (Region.noSelect_spec hs) hQ fuel listed a w (Region.free_spec hi hf) (by simpa using hr) hin hy hS h
/-- One alone may come up. -/
theorem wpAnyK_one {i : Nat} {o : Oper} {fuel : Nat} {listed : Array Bool} {a : Act} {w : World} (hr : Region.ready md ops listed = [i]) (hi : ops[i]? = some o) (hw : Region.wanted o (yielded ops a.tmps) = true)
    (h : o.wp P a w (fun a' w' => (i ≠ n → S w') ∧ wpAnyK P md ops Q S n fuel (listed.setIfInBounds i true) a' w') Q) : wpAnyK P md ops Q S n (fuel + 1) listed a w := by
  refine ⟨fun h0 => (by rw [hr] at h0; cases h0), fun j hj => ?_⟩
  rw [hr, List.mem_singleton] at hj
  subst hj
  unfold wpOp
  simp only [hi, hw, if_true]
  exact .inl h
theorem wpAnyK_done {listed : Array Bool} {a : Act} {w : World} (hr : Region.ready md ops listed = []) (h : Q .normal a w) : ∀ fuel, wpAnyK P md ops Q S n fuel listed a w
  | 0 => ⟨hr, h⟩
  | _ + 1 => ⟨fun _ => h, by rw [hr]; simp⟩
theorem wp_region_K (S : World → Prop) (n : Nat) {id : Nat} {a : Act} {w : World} (hm : P.follows .mixedOrders = true) (h : wpAnyK P .any ops Q S n ops.size (Array.replicate ops.size false) a w.drew) : (Code.region id ops true).wp P Q a w :=
  wp_region_any hm (wpAny_of_K _ _ _ _ h)
end
end Go.Proofs.YtdekmeanlcpenaaGreatDoor.Sep
