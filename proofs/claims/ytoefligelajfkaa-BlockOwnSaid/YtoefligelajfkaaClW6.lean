import Derived.Test.YtoefligelajfkaaClW4
import Derived.Test.YtoefligelajfkaaClW5
import Derived.BigQuiet
import Derived.Test.YtoefligelajfkaaPBlockOpensx0
import Derived.Deep.Slices
import Derived.ChangeSame
import Derived.SizedLaws
import Derived.OpenShut
import Derived.Test.YtoefligelajfkaaClW3
import Derived.Deep.RegionHeld3
import Derived.Deep.DrawnRows
import Derived.IntWalk
import Derived.Test.YtoefligelajfkaaClW2
import Derived.Laws.MakeOwn
namespace Go.Proofs.Ytoefligelajfkaa.Block
open Go.RowKit Go.Proofs.YtoefligelajfkaaW.PrintWords Go.Proofs.YtoefligelajfkaaW.PrintLast Go.Proofs.YtoefligelajfkaaW.PrintMore Go.Proofs.Ytoefligelajfkaa.Press
open Go.Proofs.Ytoefligelajfkaa.PBlockOpens (S58 k58 z58 k58_open k58_mk k58_mkM k58_openM rd_T58 at_T58 freightref11_isSize.f freightref11_isSize.calls)

theorem ref_isz_f (size : Int) : freightref11_isSize.f size = some (decide (isSize size)) := isSize_f size

/-- What the document's Pack holds. -/
structure PInv (w0 w : World) (vo vb : Value) (out : List Int) (bl : List S58) : Prop where
  ro : Kd.R (Kd.int .u8) 5 w w0.heap.size (fun _ => True) vo out
  rb : Kd.R k58 58 w w0.heap.size (fun _ => True) vb bl
  bel : Below w0.heap.size w0 w
theorem PInv.step {w0 w w1 : World} {vo vb : Value} {out : List Int} {bl : List S58} (h : PInv w0 w vo vb out bl) (hb : Below w.heap.size w w1) : PInv w0 w1 vo vb out bl := ⟨Kd.R_below h.ro hb, Kd.R_below h.rb hb, below_step h.bel hb⟩
/-- Packed bytes: a part of what came in, or a row of one's own. -/
def Src (w0 w : World) (A : Option Addr) (k : Nat) (q : List Int) : Prop := Kd.C (Kd.int .u8) w0 A q.length q ∨ Kd.R (Kd.int .u8) 5 w w0.heap.size (fun _ => True) (.slice A q.length k) q
theorem Src.reads {w0 w : World} {A : Option Addr} {k : Nat} {q : List Int} (h : Src w0 w A k q) (hb : Below w0.heap.size w0 w) : Kd.C (Kd.int .u8) w A q.length q := by
  rcases h with h | h
  · exact Kd.C_below h hb
  · exact (Kd.R_reads' h).2.2
theorem Src.over {w0 w w1 : World} {A : Option Addr} {k : Nat} {q : List Int} {vb : Value} {bl : List S58} {base : Nat} (h : Src w0 w A k q) (hr : Kd.R k58 58 w base (fun _ => True) vb bl) (hg : w.grownBy w1 vb.ownBlock) : Src w0 w1 A k q := by
  rcases h with h | h
  · exact .inl h
  · exact .inr (Kd.R_over' (v := vb) (e' := 58) h (Kd.R_typed hr) (by decide) hg)

structure QInv (w : World) (l : List Int) (size : Nat) (rs : List Int × List S58) (wr : World) (k : Nat) (vo vb : Value) (out : List Int) (bl : List S58) (at_ : Nat) : Prop where
  inv : PInv w wr vo vb out bl
  fuel : l.length ≤ at_ + k
  run : bpR l size k out bl at_ = rs
  olen : out.length ≤ at_
  blen : bl.length ≤ at_
  at_le : at_ ≤ 70000

set_option maxRecDepth 100000 in
set_option maxHeartbeats 4000000 in
theorem rpack_walk (A0 : Option Addr) (c0 : Nat) (l0 : List Int) (size : Nat) (w : World) (hr0 : Kd.C (Kd.int .u8) w A0 l0.length l0) (hby : ∀ x ∈ l0, 0 ≤ x ∧ x ≤ 255) (hc0 : l0.length ≤ c0) (hl : l0.length ≤ 65536) (hs1 : 16 ≤ size) (hs2 : size ≤ 4096) :
    Calls Try.prog 30 #[.slice A0 l0.length c0, .int .i64 size] w fun e w' => ∃ vo vb, e = .returned (.tuple #[vo, vb, .int .i64 0]) ∧
      Kd.R (Kd.int .u8) 5 w' w.heap.size (fun _ => True) vo (bpR l0 size l0.length [] [] 0).1 ∧ k58.R 58 w' w.heap.size (fun _ => True) vb (bpR l0 size l0.length [] [] 0).2 ∧ Below w.heap.size w w' := by
  obtain ⟨rs, hrs⟩ : ∃ rs, bpR l0 size l0.length [] [] 0 = rs := ⟨_, rfl⟩
  rw [hrs]
  have HRS := Aside0.mk hrs
  have HR0 := Aside0.mk hr0
  clear hrs hr0
  have HZ : Aside0 (freightref11_isSize.f (size : Int) = some true) := ⟨by rw [ref_isz_f, decide_eq_true (show isSize (size : Int) from ⟨by omega, by omega⟩)]⟩
  have hl2 : decide ((65536 : Int) < (l0.length : Int)) = false := by simp; omega
  have hl3 : decide (65536 < l0.length) = false := by simp; omega
  go_enter Try.func30, Try.ntmps30
  go_wp2_with (go_at_call 53; refine (freightref11_isSize.calls _ _ _ HZ.out).mono ?_; rintro e w1 ⟨rfl, hd1⟩)
  have HQ0 : Aside0 (QInv w l0 size rs w1 l0.length (.slice none 0 0) (.slice none 0 0) [] [] 0) := ⟨⟨⟨Kd.R_nil _ _ _ _ _, Kd.R_nil _ _ _ _ _, hd1.below⟩, by omega, HRS.out, by simp, by simp, by omega⟩⟩
  clear hd1
  go_loopg [7, 8, 9] l0.length (fun k v7 v8 v9 w' => ∃ (at_ : Nat) (out : List Int) (bl : List S58) (Ao Ab : Option Addr) (ko kb : Nat), v7 = .slice Ao out.length ko ∧ v8 = .slice Ab bl.length kb ∧ v9 = .int .i64 at_ ∧ Aside0 (QInv w l0 size rs w' k (.slice Ao out.length ko) (.slice Ab bl.length kb) out bl at_))
  case atStart => exact ⟨0, [], [], none, none, 0, 0, rfl, rfl, rfl, HQ0⟩
  case round =>
    clear HQ0
    obtain ⟨at_, out, bl, Ao, Ab, ko, kb, rfl, rfl, rfl, HQ⟩ := hrel
    have hat0 := HQ.out.at_le
    by_cases hat : at_ < l0.length
    · have hat1 : (at_ : Int) < (l0.length : Int) := by omega
      obtain ⟨k, rfl⟩ : ∃ k, gk = k + 1 := ⟨gk - 1, by have := HQ.out.fuel; omega⟩
      obtain ⟨en, hen⟩ : ∃ en : Nat, en = min (at_ + size) l0.length := ⟨_, rfl⟩
      have he1 : at_ ≤ en := by omega
      have he2 : en ≤ c0 := by omega
      have he3 : (at_ : Int) ≤ (en : Int) := by omega
      have he4 : (en : Int) ≤ (c0 : Int) := by omega
      have he5 : ¬ c0 = at_ := by omega
      obtain ⟨ad, e, -⟩ := Kd.at_int HR0.out (at_ : Int) (by omega) hat1
      cases e
      obtain ⟨pc, hpc⟩ : ∃ pc, pc = pieceAt l0 size at_ := ⟨_, rfl⟩
      have hpl : en - at_ = pc.length := by rw [hpc, pieceAt_length]; omega
      have hpb : ∀ x ∈ pc, 0 ≤ x ∧ x ≤ 255 := by rw [hpc]; exact fun x hx => hby x (List.mem_of_mem_drop (List.mem_of_mem_take hx))
      have hpn : pc.length ≤ 4096 := by rw [hpc, pieceAt_length]; omega
      have hpC := piece_C (w := w) size at_ HR0.out hat
      rw [← hpc, Option.map_some] at hpC
      have hrun := HQ.out.run
      rw [bpR, if_pos hat, ← hpc] at hrun
      have HRUN := Aside0.mk hrun
      have HPC := Aside0.mk hpC
      have hpk2 : pc.length ≤ c0 - at_ := by omega
      have hps := pieceS_length pc
      have hpl2 : pc.length ≤ size := by rw [hpc, pieceAt_length]; omega
      have HEN := Aside0.mk hen
      obtain ⟨pk, hpk⟩ : ∃ pk, packS pc = pk := ⟨_, rfl⟩
      have HPK := Aside0.mk hpk
      have hpS : Aside0 (pieceS pc = if pc.length ≤ pk.1.length then pc else pk.1) := ⟨by rw [pieceS, hpk]⟩
      clear hrun hpC hpc hpk hen
      go_upto_if 33 with (fail)
      go_cut [10] (fun v10 wc => v10 = .int .i64 en ∧ Aside0 (QInv w l0 size rs wc (k + 1) (.slice Ao out.length ko) (.slice Ab bl.length kb) out bl at_))
      case first =>
        by_cases hbig : l0.length < at_ + size
        · have hb1 : (l0.length : Int) < (at_ : Int) + (size : Int) := by omega
          have e : (l0.length : Int) = (en : Int) := by have := HEN.out; omega
          go_wp2
          go_meet
          case rel => exact ⟨rfl, HQ⟩
        · have hb1 : decide ((l0.length : Int) < (at_ : Int) + (size : Int)) = false := by simp; omega
          have e : (at_ : Int) + (size : Int) = (en : Int) := by have := HEN.out; omega
          have HE := Aside0.mk e
          clear e
          go_wp2
          go_meet
          case rel => exact ⟨by rw [HE.out], HQ⟩
      case rest =>
        obtain ⟨rfl, HQ⟩ := hcut
        go_upto_if 49 with (go_at_call 21; refine (ref_pack_any (some (ad.add at_)) (c0 - at_) pc _ (Kd.C_below HPC.out HQ.out.inv.bel) hpk2 (by omega)).mono ?_; rw [HPK.out]; rintro e w5 ⟨v5, rfl, hR5, hB5⟩; obtain ⟨A5, k5, rfl⟩ := Kd.R_slice hR5; have H5 := Aside0.mk (⟨Kd.R_lower hR5 HQ.out.inv.bel.size, HQ.out.inv.step hB5⟩ : _ ∧ _); clear hR5 hB5)
        go_cut [12] (fun v12 wc => ∃ (A4 : Option Addr) (k4 : Nat), v12 = .slice A4 (pieceS pc).length k4 ∧ Aside0 (Src w wc A4 k4 (pieceS pc) ∧ PInv w wc (.slice Ao out.length ko) (.slice Ab bl.length kb) out bl))
        case first =>
          by_cases hge : pc.length ≤ pk.1.length
          · have hge1 : (pc.length : Int) ≤ (pk.1.length : Int) := by omega
            have HP := hpS.out
            rw [if_pos hge] at HP
            have HP := Aside0.mk HP
            clear hge
            go_wp2
            go_meet
            case rel => rw [HP.out]; exact ⟨_, _, rfl, ⟨.inl HPC.out, H5.out.2⟩⟩
          · have hge3 : (pk.1.length : Int) < (pc.length : Int) := by omega
            have HP := hpS.out
            rw [if_neg hge] at HP
            have HP := Aside0.mk HP
            clear hge
            go_wp2
            go_meet
            case rel => rw [HP.out]; exact ⟨A5, k5, rfl, ⟨.inr H5.out.1, H5.out.2⟩⟩
        case rest =>
          clear H5
          obtain ⟨A4, k4, rfl, HS⟩ := hcut
          obtain ⟨q, hq⟩ : ∃ q, pieceS pc = q := ⟨_, rfl⟩
          have hqb : ∀ x ∈ q, 0 ≤ x ∧ x ≤ 255 := by
            rw [← hq]; unfold pieceS
            split
            · exact hpb
            · exact packS_bytes pc hpb
          obtain ⟨nq, hnq⟩ : ∃ nq, sumS q = nq := ⟨_, rfl⟩
          have HBS : Aside0 (blockS out.length pc = ⟨out.length, q.length, pc.length, nq⟩) := ⟨by rw [blockS, hq, hnq]⟩
          have HNQ := Aside0.mk hnq
          have HQQ := Aside0.mk hq
          rw [hq] at hps HS ⊢
          have hql : q.length ≤ 4096 := by omega
          have hol := HQ.out.olen
          have hbl := HQ.out.blen
          clear hq hnq hpS HPK
          go_wp2_with (first
            | (go_at_call 54; refine (ref_sum_any A4 k4 q _ (HS.out.1.reads HS.out.2.bel) hqb (by omega)).mono ?_; rw [HNQ.out]; rintro e w6 ⟨rfl, rfl⟩)
            | (at_builtin; refine Kd.R_append k58 (w0 := w) w.heap.size rfl (.tmp 51) (.tmp 61) 47 58 (.agg #[.int .i64 0, .int .i64 0, .int .i64 0, .int .i64 0]) 32 rfl Try.underlying47 info58 rfl (by decide) (by omega) (.slice Ab bl.length kb) bl ⟨out.length, q.length, pc.length, nq⟩ [.int .i64 out.length, .int .i64 q.length, .int .i64 pc.length, .int .i64 nq] (fun _ => True) (fun _ => False) rfl rfl (k58_mkM _ _ _ _) (fun _ hk => hk.elim) (fun _ _ => trivial) HS.out.2.rb HS.out.2.bel HS.out.2.bel.size (by omega) ?_; intro v6 w6 ho6 hb6 hg6 hat6; obtain ⟨A6, k6, e6⟩ := Kd.R_slice ho6; rw [List.length_append, List.length_singleton] at e6; subst e6; have H6 : Aside0 (k58.R 58 w6 w.heap.size (fun _ => True) (.slice A6 (bl.length + 1) k6) (bl ++ [⟨out.length, q.length, pc.length, nq⟩]) ∧ Below w.heap.size w w6 ∧ Src w w6 A4 k4 q ∧ Kd.R (Kd.int .u8) 5 w6 w.heap.size (fun _ => True) (.slice Ao out.length ko) out) := ⟨ho6, hb6, HS.out.1.over HS.out.2.rb hg6, Kd.R_over' (v := .slice Ab bl.length kb) (e' := 58) HS.out.2.ro (Kd.R_typed HS.out.2.rb) (by decide) hg6⟩; clear ho6 hb6 hg6 hat6)
            | (at_builtin; go_loud (refine Kd.R_append_rows (Kd.int .u8) (w0 := w) w.heap.size rfl (.tmp 63) (.tmp 64) 22 5 (.int .u8 0) 1 rfl Try.underlying22 info5 rfl (by decide) (by omega) (.slice Ao out.length ko) out q A4 q.length k4 (fun _ => True) (fun _ => False) rfl rfl H6.out.2.2.2 (H6.out.2.2.1.reads H6.out.2.1) (fun _ _ h => h) (fun _ hk => hk.elim) (fun _ _ => trivial) H6.out.2.1 H6.out.2.1.size (by omega) ?_); intro v8 w8 ho8 hb8 hg8 hat8; obtain ⟨A8, k8, e8⟩ := Kd.R_slice ho8; rw [List.length_append] at e8; subst e8; have H8 : Aside0 (Kd.R (Kd.int .u8) 5 w8 w.heap.size (fun _ => True) (.slice A8 (out.length + q.length) k8) (out ++ q) ∧ k58.R 58 w8 w.heap.size (fun _ => True) (.slice A6 (bl.length + 1) k6) (bl ++ [⟨out.length, q.length, pc.length, nq⟩]) ∧ Below w.heap.size w w8) := ⟨ho8, Kd.R_over' (v := .slice Ao out.length ko) (e' := 5) H6.out.1 (Kd.R_typed H6.out.2.2.2) (by decide) hg8, hb8⟩; clear ho8 hb8 hg8 hat8))
          go_roundg k
          case measure => omega
          case rel =>
            have hr := HRUN.out
            rw [HBS.out, HQQ.out] at hr
            exact ⟨at_ + size, out ++ q, bl ++ [⟨out.length, q.length, pc.length, nq⟩], A8, A6, k8, k6, by rw [List.length_append], by rw [List.length_append, List.length_singleton], by go_num, ⟨⟨⟨by rw [List.length_append]; exact H8.out.1, by rw [List.length_append, List.length_singleton]; exact H8.out.2.1, H8.out.2.2⟩, by have := HQ.out.fuel; omega, hr, by rw [List.length_append]; omega, by rw [List.length_append, List.length_singleton]; omega, by omega⟩⟩⟩
    · have hat1 : decide ((at_ : Int) < (l0.length : Int)) = false := by simp; omega
      have hat2 : decide (at_ < l0.length) = false := by simp; omega
      have hr := HQ.out.run
      have : bpR l0 size gk out bl at_ = (out, bl) := by cases gk <;> simp [bpR, hat]
      rw [this] at hr
      subst hr
      clear this
      go_wp2
      go_ret3
      exact ⟨_, _, rfl, HQ.out.inv.ro, HQ.out.inv.rb, HQ.out.inv.bel⟩

/-- The document's Pack of any row and size. -/
theorem rpack_any (A0 : Option Addr) (c0 : Nat) (l0 : List Int) (size : Int) (w : World) (hr0 : Kd.C (Kd.int .u8) w A0 l0.length l0) (hby : ∀ x ∈ l0, 0 ≤ x ∧ x ≤ 255) (hc0 : l0.length ≤ c0) (hl : l0.length ≤ 140737488355328) :
    Calls Try.prog 30 #[.slice A0 l0.length c0, .int .i64 size] w fun e w' => ∃ vo vb, e = .returned (.tuple #[vo, vb, .int .i64 (bpackS l0 size).2.2]) ∧
      Kd.R (Kd.int .u8) 5 w' w.heap.size (fun _ => True) vo (bpackS l0 size).1 ∧ k58.R 58 w' w.heap.size (fun _ => True) vb (bpackS l0 size).2.1 ∧ Below w.heap.size w w' := by
  by_cases hs : isSize size
  · by_cases hb : l0.length > 65536
    · have e : bpackS l0 size = ([], [], 2) := by unfold bpackS; rw [if_neg (fun h => h hs), if_pos hb]
      rw [e]
      have hz : freightref11_isSize.f size = some true := by rw [ref_isz_f, decide_eq_true hs]
      have hl1 : (65536 : Int) < (l0.length : Int) := by omega
      go_enter Try.func30, Try.ntmps30
      go_wp2_with (go_at_call 53; refine (freightref11_isSize.calls _ _ _ hz).mono ?_; rintro e w1 ⟨rfl, ⟨nd, rfl⟩⟩)
      go_ret3
      exact ⟨_, _, rfl, Kd.R_nil _ _ _ _ _, Kd.R_nil _ _ _ _ _, pw_below_drewN (Below.refl _ _) _⟩
    · have hs' := hs
      obtain ⟨h1, h2⟩ := hs'
      obtain ⟨n, rfl⟩ := Int.eq_ofNat_of_zero_le (a := size) (by omega)
      have e : bpackS l0 (n : Int) = ((bpR l0 n l0.length [] [] 0).1, (bpR l0 n l0.length [] [] 0).2, 0) := by unfold bpackS; rw [if_neg (fun h => h hs), if_neg hb, Int.toNat_natCast]
      rw [e]
      exact rpack_walk A0 c0 l0 n w hr0 hby hc0 (by omega) (by omega) (by omega)
  · have e : bpackS l0 size = ([], [], 1) := by unfold bpackS; rw [if_pos hs]
    rw [e]
    have hz : freightref11_isSize.f size = some false := by rw [ref_isz_f, decide_eq_false hs]
    go_enter Try.func30, Try.ntmps30
    go_wp2_with (go_at_call 53; refine (freightref11_isSize.calls _ _ _ hz).mono ?_; rintro e w1 ⟨rfl, ⟨nd, rfl⟩⟩)
    go_ret3
    exact ⟨_, _, rfl, Kd.R_nil _ _ _ _ _, Kd.R_nil _ _ _ _ _, pw_below_drewN (Below.refl _ _) _⟩
end Go.Proofs.Ytoefligelajfkaa.Block

namespace Go.Proofs.Ytoefligelajfkaa.OpenK
open Go.ChangeShapes Go.WideShapes Go.Deep Go.Proofs.YtoefligelajfkaaW.PrintWords

/-- Whatever reads as a datum of a type reads as a value of a kind, and the value is good. -/
def Opens {α H : Type} (P : Program) (enc : TypeId × Value → H) (w : World) (d : Kd α) (e : TypeId) (good : α → Prop) : Prop :=
  ∀ (fuel : Nat) (cs : List Value) (x : DataW H × List MemPlace), DataW.trod enc P w 0 (fun _ => true) true fuel e cs = some x → (∀ n ∈ DataW.weights P e x.1, n ≤ reachBytes) → ∃ v, d.K w v cs ∧ good v

theorem opens_int {H : Type} {P : Program} {enc : TypeId × Value → H} {w : World} {e : TypeId} {k : IntKind} (he : P.underlying e = some (.int k)) : Opens P enc w (Kd.int k) e (fun n => (Lit.int k n).wf = true) := by
  intro fuel cs x h _
  obtain ⟨n, rfl, _, hw⟩ := DataW.trod_int he h
  exact ⟨n, rfl, hw⟩

theorem opens_slice {α H : Type} {P : Program} {enc : TypeId × Value → H} {w : World} {d : Kd α} {t e : TypeId} {good : α → Prop} [Inhabited α] (ht : P.underlying t = some (.slice e)) (hc : P.cellsOf e = d.sz) {B : Nat} (hB : P.bytesOf e = B) (h : Opens P enc w d e good) :
    Opens P enc w (Kd.slice e d) t (fun l => l.length * B ≤ 140737488351232 ∧ ∀ x ∈ l, good x) := by
  intro fuel cs x hx hw
  rcases open_slice ht hx with ⟨rfl, _⟩ | ⟨a, len, cap, m, n, D, Pl, rfl, _, hl, hm, rfl, rfl, hi⟩
  · exact ⟨[], ⟨none, 0, rfl, Nat.le_refl _, Kd.C_nil d w⟩, by simp, by simp⟩
  · simp only [] at hi hw
    simp only [DataW.weights, ht] at hw
    have hwl := hw _ (List.mem_cons_self)
    have hwe : ∀ i, i < len → ∀ z ∈ DataW.weights P e (D i), z ≤ reachBytes := by
      intro i hil z hz
      refine hw z (List.mem_cons_of_mem _ (List.mem_append_left _ ?_))
      have key : ∀ (l : List (DataW H)), D i ∈ l → z ∈ DataW.weightsAll P e l := by
        intro l
        induction l with
        | nil => intro h; simp at h
        | cons y r ih =>
          intro h
          rw [DataW.weightsAll, List.mem_append]
          rcases List.mem_cons.1 h with rfl | h
          · exact .inl hz
          · exact .inr (ih h)
      exact key _ (List.mem_map.2 ⟨i, List.mem_range.2 hil, rfl⟩)
    obtain ⟨f, hf⟩ := choose_lt (n := len) (p := fun i v => (∃ cs', w.cells? 0 (a.add (i * P.cellsOf e)) (P.cellsOf e) = some cs' ∧ d.K w v cs') ∧ good v) (fun i hil => by
      obtain ⟨cs', h1, h2⟩ := hi i (by omega)
      obtain ⟨v, hK, hg⟩ := h n cs' _ h2 (hwe i hil)
      exact ⟨v, ⟨cs', h1, hK⟩, hg⟩)
    refine ⟨(List.range len).map f, ⟨some a, m, by simp, by simpa using hl, ?_⟩, ?_, ?_⟩
    · refine ⟨rfl, by simp; unfold maxLen at hm; omega, fun hpos => ⟨a, rfl, fun j p hj => ?_⟩⟩
      simp only [List.length_map, List.length_range] at hpos
      rw [List.getElem?_map] at hj
      obtain ⟨i, hi1, rfl⟩ := Option.map_eq_some_iff.1 hj
      have hjl : j < len := by have := (List.getElem?_eq_some_iff.1 hi1).1; simpa using this
      have hij : i = j := by
        rw [List.getElem?_range hjl] at hi1
        simpa using hi1.symm
      subst hij
      obtain ⟨⟨cs', h1, hK⟩, _⟩ := hf i hjl
      rw [hc] at h1
      obtain ⟨_, hlen, hcell⟩ := World.cells?_some h1
      refine ⟨cs', hlen, hK, fun k u hk => ?_⟩
      have hkl : k < d.sz := by have := (List.getElem?_eq_some_iff.1 hk).1; omega
      rw [← Go.Deep.add_add, hcell k hkl]
      exact hk
    · simp only [List.length_map, List.length_range] at hwl ⊢
      rw [hB] at hwl
      refine Nat.le_trans (Nat.mul_le_mul_right _ ?_) (Nat.le_trans hwl (by decide))
      omega
    · intro x hx
      obtain ⟨i, hi1, rfl⟩ := List.mem_map.1 hx
      exact (hf i (List.mem_range.1 hi1)).2

theorem opens_pair {α β H : Type} {P : Program} {enc : TypeId × Value → H} {w : World} {a : Kd α} {b : Kd β} {e : TypeId} {f0 f1 : Field} {ga : α → Prop} {gb : β → Prop} (hs : P.underlying e = some (.struct #[f0, f1])) (o0 : f0.offset = 0) (o1 : f1.offset = a.sz)
    (c0 : P.cellsOf f0.type = a.sz) (c1 : P.cellsOf f1.type = b.sz) (hc : P.cellsOf e = a.sz + b.sz) (ha : Opens P enc w a f0.type ga) (hb : Opens P enc w b f1.type gb) : Opens P enc w (Kd.pair a b) e (fun x => ga x.1 ∧ gb x.2) := by
  intro fuel cs x h hw
  obtain ⟨y0, y1, n, rfl, hl, h0, h1⟩ := trod_struct2 hs h
  simp only [DataW.weights, hs] at hw
  rw [o0, c0, List.drop_zero] at h0
  rw [o1, c1] at h1
  have hcs : (cs.drop a.sz).take b.sz = cs.drop a.sz := List.take_of_length_le (by simp; omega)
  rw [hcs] at h1
  obtain ⟨v0, hK0, g0⟩ := ha _ _ _ h0 (fun z hz => hw z (by simp [DataW.weightsEach]; exact .inl hz))
  obtain ⟨v1, hK1, g1⟩ := hb _ _ _ h1 (fun z hz => hw z (by simp [DataW.weightsEach]; exact .inr hz))
  exact ⟨(v0, v1), ⟨_, _, (List.take_append_drop _ _).symm, hK0, hK1⟩, g0, g1⟩

/-- Another name of the values. -/
theorem opens_iso {α β H : Type} {P : Program} {enc : TypeId × Value → H} {w : World} {d : Kd α} {e : TypeId} {good : α → Prop} (f : β → α) (g : α → β) (hfg : ∀ x, f (g x) = x) (h : Opens P enc w d e good) : Opens P enc w (Kd.iso d f) e (fun x => good (f x)) := by
  intro fuel cs x hx hw
  obtain ⟨v, hK, hg⟩ := h fuel cs x hx hw
  exact ⟨g v, by show d.K w (f (g v)) cs; rw [hfg]; exact hK, by show good (f (g v)); rw [hfg]; exact hg⟩

/-- A slice among a law's arguments. -/
theorem arg_slice {α H : Type} {P : Program} {enc : TypeId × Value → H} {W : World} {d : Kd α} {t e : TypeId} {good : α → Prop} {B : Nat} {a : Option Addr} {len cap : Nat} {x : DataW H} {ps : List MemPlace} {ts : List TypeId} {ds : List (DataW H)} {j : Nat}
    (ho : Opens P enc W (Kd.slice e d) t (fun l => l.length * B ≤ 140737488351232 ∧ ∀ x ∈ l, good x)) (hsz : (DataW.weightsEach P ts ds).all (· ≤ reachBytes) = true) (ht : ts[j]? = some t) (hd : ds[j]? = some x)
    (h : DataW.Trod enc P W 0 (fun _ => true) true t (.slice a len cap) x ps) : ∃ l : List α, len = l.length ∧ l.length ≤ cap ∧ d.C W a l.length l ∧ l.length * B ≤ 140737488351232 ∧ ∀ x ∈ l, good x := by
  obtain ⟨fuel, hf⟩ := h
  obtain ⟨l, ⟨A, c, e1, h1, h2⟩, h3, h4⟩ := ho fuel _ _ hf (fun n hn => by
    have := List.all_eq_true.1 hsz _ (DataW.weights_mem_each ht hd n hn)
    simpa using this)
  simp [Value.cells] at e1
  obtain ⟨rfl, rfl, rfl⟩ := e1
  exact ⟨l, rfl, h1, h2, h3, h4⟩

open Go.Proofs.Ytoefligelajfkaa.PBlockOpens (S58 k58 k58_mk)
theorem opens58 {H : Type} {enc : TypeId × Value → H} {w : World} : Opens Try.prog enc w k58 58 (fun b => (Lit.int .i64 b.f0).wf = true ∧ (Lit.int .i64 b.f1).wf = true ∧ (Lit.int .i64 b.f2).wf = true ∧ (Lit.int .i64 b.f3).wf = true) := by
  intro fuel cs x h _
  obtain ⟨xs, n, _, rfl, hl, hlen, hf⟩ := DataW.trod_struct Try.underlying58 h
  have hc : Try.prog.cellsOf 58 = 4 := by kernel_rfl
  have h3 : Try.prog.cellsOf 3 = 1 := by kernel_rfl
  rw [hc] at hl
  match cs, hl with
  | [c0, c1, c2, c3], _ =>
    match xs, hlen with
    | [y0, y1, y2, y3], _ =>
      have f0 : DataW.trod enc Try.prog w 0 (fun _ => true) true n 3 ((([c0, c1, c2, c3] : List Value).drop 0).take (Try.prog.cellsOf 3)) = some y0 := hf 0 _ rfl
      have f1 : DataW.trod enc Try.prog w 0 (fun _ => true) true n 3 ((([c0, c1, c2, c3] : List Value).drop 1).take (Try.prog.cellsOf 3)) = some y1 := hf 1 _ rfl
      have f2 : DataW.trod enc Try.prog w 0 (fun _ => true) true n 3 ((([c0, c1, c2, c3] : List Value).drop 2).take (Try.prog.cellsOf 3)) = some y2 := hf 2 _ rfl
      have f3 : DataW.trod enc Try.prog w 0 (fun _ => true) true n 3 ((([c0, c1, c2, c3] : List Value).drop 3).take (Try.prog.cellsOf 3)) = some y3 := hf 3 _ rfl
      rw [h3] at f0 f1 f2 f3
      obtain ⟨n0, e0, _, w0⟩ := DataW.trod_int Try.underlying3 f0
      obtain ⟨n1, e1, _, w1⟩ := DataW.trod_int Try.underlying3 f1
      obtain ⟨n2, e2, _, w2⟩ := DataW.trod_int Try.underlying3 f2
      obtain ⟨n3, e3, _, w3⟩ := DataW.trod_int Try.underlying3 f3
      simp only [List.drop_zero, List.take_succ_cons, List.take_zero, List.drop_succ_cons, List.cons.injEq, and_true] at e0 e1 e2 e3
      subst e0 e1 e2 e3
      exact ⟨⟨n0, n1, n2, n3⟩, k58_mk w _, w0, w1, w2, w3⟩
theorem opens47 {H : Type} {enc : TypeId × Value → H} {w : World} : Opens Try.prog enc w (Kd.slice 58 k58) 47 (fun l => l.length * 32 ≤ 140737488351232 ∧ ∀ b ∈ l, (Lit.int .i64 b.f0).wf = true ∧ (Lit.int .i64 b.f1).wf = true ∧ (Lit.int .i64 b.f2).wf = true ∧ (Lit.int .i64 b.f3).wf = true) :=
  haveI : Inhabited S58 := ⟨⟨0, 0, 0, 0⟩⟩
  opens_slice Try.underlying47 (by kernel_rfl) (by kernel_rfl) opens58

open Go.Proofs.Ytoefligelajfkaa.PBlockOpens (S60 k60)
/-- A row of bytes that a law is given. -/
def GoodB (l : List Int) : Prop := l.length * 1 ≤ 140737488351232 ∧ ∀ x ∈ l, (Lit.int .u8 x).wf = true
def Good58 (b : S58) : Prop := (Lit.int .i64 b.f0).wf = true ∧ (Lit.int .i64 b.f1).wf = true ∧ (Lit.int .i64 b.f2).wf = true ∧ (Lit.int .i64 b.f3).wf = true
theorem opens22 {H : Type} {enc : TypeId × Value → H} {w : World} : Opens Try.prog enc w (Kd.slice 5 (Kd.int .u8)) 22 GoodB :=
  opens_slice Try.underlying22 (by kernel_rfl) (by kernel_rfl) (opens_int Try.underlying5)
theorem opens60 {H : Type} {enc : TypeId × Value → H} {w : World} : Opens Try.prog enc w k60 60 (fun x => GoodB x.f0 ∧ Good58 x.f1) :=
  opens_iso (fun x : S60 => (x.f0, x.f1)) (fun p => ⟨p.1, p.2⟩) (fun _ => rfl) (opens_pair Try.underlying60 rfl rfl (by kernel_rfl) (by kernel_rfl) (by kernel_rfl) opens22 opens58)
theorem opens56 {H : Type} {enc : TypeId × Value → H} {w : World} : Opens Try.prog enc w (Kd.slice 60 k60) 56 (fun l => l.length * 56 ≤ 140737488351232 ∧ ∀ x ∈ l, GoodB x.f0 ∧ Good58 x.f1) :=
  haveI : Inhabited S60 := ⟨⟨[], ⟨0, 0, 0, 0⟩⟩⟩
  opens_slice Try.underlying56 (by kernel_rfl) (by kernel_rfl) opens60
theorem GoodB.bytes {l : List Int} (h : GoodB l) : ∀ x ∈ l, 0 ≤ x ∧ x ≤ 255 := fun x hx => Go.bounds_u8 (h.2 x hx)

/-- A row and a size. -/
structure SAsk where
  f0 : List Int
  f1 : Int
def kAsk : Kd SAsk := Kd.iso (Kd.pair (Kd.slice 5 (Kd.int .u8)) (Kd.int .i64)) (fun x : SAsk => (x.f0, x.f1))
theorem opens42 {H : Type} {enc : TypeId × Value → H} {w : World} : Opens Try.prog enc w kAsk 42 (fun x => GoodB x.f0 ∧ (Lit.int .i64 x.f1).wf = true) :=
  opens_iso (fun x : SAsk => (x.f0, x.f1)) (fun p => ⟨p.1, p.2⟩) (fun _ => rfl) (opens_pair Try.underlying42 rfl rfl (by kernel_rfl) (by kernel_rfl) (by kernel_rfl) opens22 (opens_int Try.underlying3))
theorem opens40 {H : Type} {enc : TypeId × Value → H} {w : World} : Opens Try.prog enc w (Kd.slice 42 kAsk) 40 (fun l => l.length * 32 ≤ 140737488351232 ∧ ∀ x ∈ l, GoodB x.f0 ∧ (Lit.int .i64 x.f1).wf = true) :=
  haveI : Inhabited SAsk := ⟨⟨[], 0⟩⟩
  opens_slice Try.underlying40 (by kernel_rfl) (by kernel_rfl) opens42
def rd_Ask (xs : List SAsk) (i : Int) : SAsk := xs.getD i.toNat ⟨[], 0⟩
theorem at_Ask {w : World} {A : Option Addr} {n : Nat} {xs : List SAsk} (h : Kd.C kAsk w A n xs) (i : Int) (h0 : 0 ≤ i) (h1 : i < n) : ∃ ad A0 c0, A = some ad ∧ w.cell? (ad.add (i.toNat * 2)) = some (.slice A0 (rd_Ask xs i).f0.length c0) ∧ w.cell? ⟨(ad.add (i.toNat * 2)).block, (ad.add (i.toNat * 2)).off + 1, none⟩ = some (.int .i64 (rd_Ask xs i).f1) ∧ (rd_Ask xs i).f0.length ≤ c0 ∧ (Kd.int .u8).C w A0 (rd_Ask xs i).f0.length (rd_Ask xs i).f0 := by
  obtain ⟨ad, c, e, _, hK, hc0⟩ := Kd.C_get h (⟨[], 0⟩ : SAsk) i h0 h1
  have hc : ∀ j u, c[j]? = some u → w.cell? (ad.add (i.toNat * 2 + j)) = some u := hc0
  obtain ⟨_, _, rfl, ⟨A0, c0, rfl, l0, g0⟩, rfl⟩ := hK
  exact ⟨ad, A0, c0, e, hc 0 _ rfl, by rw [← add_field _ _ 1 (by omega)]; exact hc 1 _ rfl, l0, g0⟩
end Go.Proofs.Ytoefligelajfkaa.OpenK

namespace Go.Proofs.Ytoefligelajfkaa.Block
open Go.RowKit Go.Proofs.YtoefligelajfkaaW.PrintWords Go.Proofs.YtoefligelajfkaaW.PrintLast Go.Proofs.YtoefligelajfkaaW.PrintMore Go.Proofs.Ytoefligelajfkaa.Press Go.Proofs.Ytoefligelajfkaa.OpenK
open Go.Proofs.Ytoefligelajfkaa.PBlockOpens (S58 k58 freightlaw11_turn.f freightlaw11_turn.calls freightlaw11_num.f freightlaw11_num.calls)

/-- The place of the k-th question. -/
theorem turn_f (k n : Nat) (hn : n ≤ 1000000) (hk : k < 2 * n) : ∃ d, d < n ∧ freightlaw11_turn.f (k : Int) (n : Int) = some (d : Int) := by
  unfold freightlaw11_turn.f
  by_cases h : k < n
  · exact ⟨k, h, by rw [if_pos (by omega)]⟩
  · refine ⟨2 * n - 1 - k, by omega, ?_⟩
    rw [if_neg (by omega)]
    congr 1
    have e1 : wrap64 (2 * (n : Int)) = 2 * (n : Int) := by unfold wrap64; omega
    have e2 : wrap64 (2 * (n : Int) - 1) = 2 * (n : Int) - 1 := by unfold wrap64; omega
    rw [e1, e2]
    unfold wrap64
    omega

theorem bpack_len (l : List Int) (size : Int) : (bpackS l size).1.length ≤ l.length ∧ (bpackS l size).2.1.length ≤ l.length + 4096 := by
  by_cases hs : isSize size
  · by_cases hb : l.length > 65536
    · have e : bpackS l size = ([], [], 2) := by unfold bpackS; rw [if_neg (fun h => h hs), if_pos hb]
      rw [e]; simp
    · have hs' := hs
      obtain ⟨h1, h2⟩ := hs'
      obtain ⟨n, rfl⟩ := Int.eq_ofNat_of_zero_le (a := size) (by omega)
      rw [bpack_fits l n (by omega) (by omega) (by omega)]
      refine ⟨back_len l n (by omega), ?_⟩
      simp only []
      rw [blocks_len, chunks_len l n (by omega) _ _ (by omega) (by omega)]
      exact Nat.le_trans (Nat.div_le_self _ _) (by omega)
  · have e : bpackS l size = ([], [], 1) := by unfold bpackS; rw [if_pos hs]
    rw [e]; simp
theorem cells2 {w : World} {g : Nat} {a b : Value} {t : TypeId} (h : w.heap[g]? = some (.cells #[a, b] t (0, 0))) : w.cell? ⟨g, 0, none⟩ = some a ∧ w.cell? ⟨g, 1, none⟩ = some b :=
  ⟨blk_cell h 0, blk_cell h 1⟩
theorem R_kp {W W1 : World} {base gd : Nat} {v v0 : Value} {xs : List Int} (h : Kd.R (Kd.int .u8) 5 W base (fun _ => True) v xs) (hk : Kp W W1 gd v0) (hne : ∀ k, v.ownBlock = some k → k ≠ gd ∧ some k ≠ v0.ownBlock) : Kd.R (Kd.int .u8) 5 W1 base (fun _ => True) v xs :=
  Kd.R_mono (Kd.R_step (Kd.R_tight rfl h) (fun k hk1 hk2 => hk.keep k hk2 (hne k hk1.symm).1 (hne k hk1.symm).2)) (fun _ _ => trivial)
theorem U_kp {W W1 : World} {base gd : Nat} {v v0 : Value} {xs : List S58} (h : k58.R 58 W base (fun _ => True) v xs) (hk : Kp W W1 gd v0) (hne : ∀ k, v.ownBlock = some k → k ≠ gd ∧ some k ≠ v0.ownBlock) : k58.R 58 W1 base (fun _ => True) v xs :=
  Kd.R_mono (Kd.R_step (Kd.R_tight rfl h) (fun k hk1 hk2 => hk.keep k hk2 (hne k hk1.symm).1 (hne k hk1.symm).2)) (fun _ _ => trivial)
theorem desk_reads {w0 : World} {gd g n k : Nat} {W : World} {p : List Int} (h : DInv w0 gd W (.slice (some ⟨g, 0, none⟩) n k) (deskS p n)) (_hn : p.length ≤ n) : Kd.C (Kd.int .u8) W (some ⟨g, 0, none⟩) p.length p := by
  have h1 := Kd.C_take (m := p.length) (Kd.R_reads' h.row).2.2 (by simp [deskS])
  have e : (deskS p n).take p.length = p := by rw [deskS, List.take_left' rfl]
  rw [e] at h1
  exact h1

attribute [local go_sem ↓] Go.wp_at_zero Go.wp_at_succ
set_option maxRecDepth 100000 in
set_option maxHeartbeats 8000000 in
theorem blockPacks_walk (A0 : Option Addr) (c0 : Nat) (l0 : List SAsk) (w : World) (hr0 : kAsk.C w A0 l0.length l0) (_hc0 : l0.length ≤ c0) (hz : l0.length * 32 ≤ 140737488351232) (hg : ∀ x ∈ l0, GoodB x.f0 ∧ (Lit.int .i64 x.f1).wf = true) :
    Calls Try.prog 11 #[.slice A0 l0.length c0] w fun e w' => e = .returned (.bool true) ∧ Below w.heap.size w w' := by
  have HR0 := Aside0.mk hr0
  have HG := Aside0.mk hg
  have hl : l0.length ≤ 140737488355328 := by omega
  clear hr0 hg _hc0 hz
  go_enter Try.func11, Try.ntmps11
  go_wp2
  go_loopg [3, 4] l0.length (fun k v3 v4 w' => ∃ n i : Nat, v3 = .int .i64 n ∧ v4 = .int .i64 i ∧ i + k = l0.length ∧ i ≤ n ∧ n ≤ 200000 ∧ Aside0 (∀ j, j < i → (rd_Ask l0 (j : Int)).f0.length ≤ 200000) ∧ w = w')
  case atStart => exact ⟨0, 0, rfl, rfl, by omega, by omega, by omega, ⟨fun j h => absurd h (by omega)⟩, rfl⟩
  case round =>
    obtain ⟨n, i, rfl, rfl, hik, hin, hn, HL, rfl⟩ := hrel
    cases gk with
    | zero =>
      have hi : i = l0.length := by omega
      subst hi
      have hl2 : l0.length ≤ 200000 := by omega
      have HD0 : Aside0 (DInv w w.heap.size (w.alloc (.cells #[.slice none 0 0] 45)) (.slice none 0 0) []) := ⟨⟨heap_alloc_new w _, Kd.R_nil _ _ _ _ _, (Below.refl _ _).alloc (Nat.le_refl _) _, Nat.le_refl _⟩⟩
      obtain ⟨gd, hgd⟩ : ∃ gd, w.heap.size = gd := ⟨_, rfl⟩
      have HGD := Aside0.mk hgd
      rw [hgd] at HD0
      clear hgd hik hin hn
      go_wp2_with fail
      rw [HGD.out]
      generalize w.alloc (.cells #[.slice none 0 0] 45) = w1 at HD0
      go_loopg [6] (2 * l0.length) (fun k v6 w' => ∃ i : Nat, v6 = .int .i64 i ∧ i + k = 2 * l0.length ∧ Aside0 (∃ (vb : Value) (B : List Int), DInv w gd w' vb B ∧ B.length ≤ 1000000))
      case atStart => exact ⟨0, rfl, by omega, ⟨_, _, HD0.out, by simp⟩⟩
      case round =>
        clear HD0
        obtain ⟨i, rfl, hik, HI⟩ := hrel
        cases gk with
        | zero =>
          have hi : (i : Int) = 2 * (l0.length : Int) := by omega
          have hi2 : decide ((i : Int) < 2 * (l0.length : Int)) = false := by simp; omega
          obtain ⟨vb, B, hD, hB⟩ := HI.out
          have HD := Aside0.mk hD
          clear hD HI
          clear hi
          go_wp2_with (go_at_call 37; refine (known_any _).mono ?_; rintro e w6 ⟨rfl, hB6⟩)
          go_ret
          exact ⟨rfl, below_step HD.out.bel hB6⟩
        | succ k =>
          have hi1 : (i : Int) < 2 * (l0.length : Int) := by omega
          obtain ⟨vb, B, hD, hB⟩ := HI.out
          have HD := Aside0.mk hD
          clear hD HI
          obtain ⟨d, hdl, hdf⟩ := turn_f i l0.length (by omega) (by omega)
          have HDF := Aside0.mk hdf
          have hd1 : (d : Int) < (l0.length : Int) := by omega
          have HDW := Aside0.mk (HD.out.bel)
          obtain ⟨ad, Ap, cp, e, p0, p1, hcp, hCp⟩ := at_Ask (Kd.C_below HR0.out HD.out.bel) (d : Int) (by omega) hd1
          cases e
          have hCp0 : Kd.C (Kd.int .u8) w Ap (rd_Ask l0 (d : Int)).f0.length (rd_Ask l0 (d : Int)).f0 := by
            obtain ⟨ad', Ap', cp', e', p0', -, -, hC'⟩ := at_Ask HR0.out (d : Int) (by omega) hd1
            cases e'
            have := pw_cell_below HD.out.bel p0'
            rw [this] at p0
            injection p0 with p0
            injection p0 with q1 _ _
            rw [← q1]; exact hC'
          simp only [Int.toNat_natCast] at p0 p1
          have hmem : rd_Ask l0 (d : Int) ∈ l0 := by
            rw [rd_Ask, Int.toNat_natCast, List.getD_eq_getElem?_getD, List.getElem?_eq_getElem hdl]; exact List.getElem_mem hdl
          have hgood := (HG.out _ hmem).1.bytes
          have hlen := HL.out d hdl
          obtain ⟨⟨p, x0⟩, hx⟩ : ∃ x, rd_Ask l0 (d : Int) = x := ⟨_, rfl⟩
          rw [hx] at p0 p1 hcp hCp hCp0 hgood hlen
          simp only [] at p0 p1 hcp hCp hCp0 hgood hlen
          clear hx hmem hdf
          go_upto_region 13 with (go_at_call 29; refine (freightlaw11_turn.calls _ _ _ _ HDF.out).mono ?_; rintro e w2 ⟨rfl, hd2⟩; have q0 := pw_cell_below hd2.below p0; have q1 := pw_cell_below hd2.below p1; have HD2 := Aside0.mk (HD.out.step hd2.below))
          obtain ⟨gx, hgx⟩ : ∃ gx, w2.heap.size = gx := ⟨_, rfl⟩
          have HX : Aside0 ((w2.alloc (.cells #[.slice Ap p.length cp, .int .i64 x0] 42)).heap[gx]? = some (.cells #[.slice Ap p.length cp, .int .i64 x0] 42 (0, 0))) := ⟨by rw [← hgx]; exact heap_alloc_new w2 _⟩
          have HD3 := Aside0.mk (HD2.out.step (below_alloc (Below.refl _ _) (.cells #[.slice Ap p.length cp, .int .i64 x0] 42)))
          have HCP := Aside0.mk hCp0
          rw [hgx]
          clear hgx p0 p1 q0 q1 hCp hCp0 HD HD2 HDF HDW hd2
          generalize w2.alloc (.cells #[.slice Ap p.length cp, .int .i64 x0] 42) = W3 at HX HD3
          obtain ⟨y0, y1⟩ := cells2 HX.out
          obtain ⟨⟨want, wbl, f⟩, hwf⟩ : ∃ r, bpackS p x0 = r := ⟨_, rfl⟩
          have HWF := Aside0.mk hwf
          clear hwf
          go_upto_region 14 with (go_at_call 30; refine (rpack_any Ap cp p x0 _ (Kd.C_below HCP.out HD3.out.bel) hgood hcp (by omega)).mono ?_; rw [HWF.out]; rintro e w4 ⟨v4, u4, rfl, hR4, hU4, hB4⟩; obtain ⟨A4, k4, rfl⟩ := Kd.R_slice hR4; obtain ⟨E4, j4, rfl⟩ := Kd.R_slice hU4; have H4 : Aside0 (w4.heap[gx]? = some (.cells #[.slice Ap p.length cp, .int .i64 x0] 42 (0, 0)) ∧ DInv w gd w4 vb B ∧ Kd.R (Kd.int .u8) 5 w4 W3.heap.size (fun _ => True) (.slice A4 want.length k4) want ∧ k58.R 58 w4 W3.heap.size (fun _ => True) (.slice E4 wbl.length j4) wbl) := ⟨blk_below HX.out hB4, HD3.out.step hB4, hR4, hU4⟩; clear hR4 hU4 hB4)
          have hgd3 := blk_lt HD3.out.blk
          have hvb3 := Kd.R_lt HD3.out.row
          clear y0 y1
          obtain ⟨y0, y1⟩ := cells2 H4.out.1
          have HNX : Aside0 (gx ≠ gd ∧ some gx ≠ vb.ownBlock ∧ gx < w4.heap.size) := ⟨fun e => by
            have h1 := H4.out.1
            rw [e, H4.out.2.1.blk] at h1
            injection h1 with h1
            injection h1 with _ h2
            exact absurd h2 (by decide), fun e => ne_block H4.out.2.1.row H4.out.1 (by decide) e.symm, blk_lt H4.out.1⟩
          have HVB3 := Aside0.mk (⟨hgd3, hvb3⟩ : _ ∧ _)
          clear HX hgd3 hvb3
          go_region_held3 (fun w' => w'.cell? ⟨gx, 0, none⟩ = some (.slice Ap p.length cp) ∧ w'.cell? ⟨gx, 1, none⟩ = some (.int .i64 x0)) (go_keep)
            (first
              | (go_at_call 32; refine (desk_lay_any w gd _ vb B Ap cp p (H4.out.2.1.step (below_drew (Below.refl _ _))) HCP.out (by omega) hB).mono ?_; rintro e w5 ⟨g5, k5, n5, rfl, h5a, h5b, hD5, hK5, hA5⟩; have H5 : Aside0 (w5.heap[gx]? = some (.cells #[.slice Ap p.length cp, .int .i64 x0] 42 (0, 0)) ∧ DInv w gd w5 (.slice (some ⟨g5, 0, none⟩) n5 k5) (deskS p n5) ∧ Kd.R (Kd.int .u8) 5 w5 W3.heap.size (fun _ => True) (.slice A4 want.length k4) want ∧ k58.R 58 w5 W3.heap.size (fun _ => True) (.slice E4 wbl.length j4) wbl) := ⟨(hK5.keep gx HNX.out.2.2 HNX.out.1 HNX.out.2.1).trans H4.out.1, hD5, R_kp (Kd.R_drew H4.out.2.2.1) hK5 (fun k hk => ⟨by have := Kd.R_base H4.out.2.2.1 k hk; have := HVB3.out.1; omega, fun e => by have := Kd.R_base H4.out.2.2.1 k hk; have := HVB3.out.2 k e.symm; omega⟩), U_kp (Kd.R_drew H4.out.2.2.2) hK5 (fun k hk => ⟨by have := Kd.R_base H4.out.2.2.2 k hk; have := HVB3.out.1; omega, fun e => by have := Kd.R_base H4.out.2.2.2 k hk; have := HVB3.out.2 k e.symm; omega⟩)⟩; obtain ⟨z0, z1⟩ := cells2 H5.out.1; have hsz5 := hK5.size; clear hD5 hK5)
              | (go_at_call 31; refine (bpack_any (some ⟨g5, 0, none⟩) k5 p x0 _ (desk_reads H5.out.2.1 (by omega)) hgood (by have := (Kd.R_reads' H5.out.2.1.row).2.1; omega) (by omega)).mono ?_; rw [HWF.out]; rintro e w6 ⟨v6, u6, rfl, hR6, hU6, hB6⟩; obtain ⟨A6, k6, rfl⟩ := Kd.R_slice hR6; obtain ⟨E6, j6, rfl⟩ := Kd.R_slice hU6; have H6 : Aside0 (w6.heap[gx]? = some (.cells #[.slice Ap p.length cp, .int .i64 x0] 42 (0, 0)) ∧ DInv w gd w6 (.slice (some ⟨g5, 0, none⟩) n5 k5) (deskS p n5) ∧ Kd.R (Kd.int .u8) 5 w6 W3.heap.size (fun _ => True) (.slice A4 want.length k4) want ∧ Kd.R (Kd.int .u8) 5 w6 w5.heap.size (fun _ => True) (.slice A6 want.length k6) want ∧ k58.R 58 w6 W3.heap.size (fun _ => True) (.slice E4 wbl.length j4) wbl ∧ k58.R 58 w6 w5.heap.size (fun _ => True) (.slice E6 wbl.length j6) wbl) := ⟨blk_below H5.out.1 hB6, H5.out.2.1.step hB6, Kd.R_below H5.out.2.2.1 hB6, hR6, Kd.R_below H5.out.2.2.2 hB6, hU6⟩; obtain ⟨t0, t1⟩ := cells2 H6.out.1; clear hR6 hU6 hB6))
          have hg5 := Kd.R_lt H5.out.2.1.row g5 rfl
          have hgd5 := blk_lt H5.out.2.1.blk
          have hwl : want.length ≤ 140737488355328 := by
            have h1 := (bpack_len p x0).1
            rw [HWF.out] at h1
            simp only [] at h1
            omega
          have hwb : wbl.length ≤ 140737488355328 := by
            have h1 := (bpack_len p x0).2
            rw [HWF.out] at h1
            simp only [] at h1
            omega
          have hdl5 : (deskS p n5).length ≤ 1000000 := by simp [deskS]; omega
          have hfar4 : ∀ k, (Value.slice A4 want.length k4).ownBlock = some k → k ≠ gd ∧ some k ≠ (Value.slice (some ⟨g5, 0, none⟩) n5 k5).ownBlock := fun k hk => ⟨by have := Kd.R_base H4.out.2.2.1 k hk; have := HVB3.out.1; omega, fun e => by
            have h1 := Kd.R_base H4.out.2.2.1 k hk
            simp [Value.ownBlock] at e
            rcases hA5 g5 rfl with h2 | h2
            · have := HVB3.out.2 g5 h2.symm; omega
            · have h3 := Kd.R_lt H4.out.2.2.1 k hk
              have h4 : w4.heap.size ≤ g5 := h2
              omega⟩
          have hfarU : ∀ k, (Value.slice E4 wbl.length j4).ownBlock = some k → k ≠ gd ∧ some k ≠ (Value.slice (some ⟨g5, 0, none⟩) n5 k5).ownBlock := fun k hk => ⟨by have := Kd.R_base H4.out.2.2.2 k hk; have := HVB3.out.1; omega, fun e => by
            have h1 := Kd.R_base H4.out.2.2.2 k hk
            simp [Value.ownBlock] at e
            rcases hA5 g5 rfl with h2 | h2
            · have := HVB3.out.2 g5 h2.symm; omega
            · have h3 := Kd.R_lt H4.out.2.2.2 k hk
              have h4 : w4.heap.size ≤ g5 := h2
              omega⟩
          have HFARU := Aside0.mk hfarU
          have HFAR4 := Aside0.mk hfar4
          clear hfar4 hfarU z0 z1 y0 y1 hA5
          go_wp2_with (first
            | (go_at_call 33; refine (desk_lies_any w gd _ g5 n5 k5 Ap cp p H6.out.2.1 HCP.out (by omega) (by omega)).mono ?_; rintro e w7 ⟨rfl, hd7⟩; have H7 : Aside0 (DInv w gd w7 (.slice (some ⟨g5, 0, none⟩) n5 k5) (deskS p n5) ∧ Kd.R (Kd.int .u8) 5 w7 W3.heap.size (fun _ => True) (.slice A4 want.length k4) want ∧ Kd.R (Kd.int .u8) 5 w7 w5.heap.size (fun _ => True) (.slice A6 want.length k6) want ∧ k58.R 58 w7 W3.heap.size (fun _ => True) (.slice E4 wbl.length j4) wbl ∧ k58.R 58 w7 w5.heap.size (fun _ => True) (.slice E6 wbl.length j6) wbl) := ⟨H6.out.2.1.step hd7.below, Kd.R_below H6.out.2.2.1 hd7.below, Kd.R_below H6.out.2.2.2.1 hd7.below, Kd.R_below H6.out.2.2.2.2.1 hd7.below, Kd.R_below H6.out.2.2.2.2.2 hd7.below⟩; clear hd7)
            | (go_at_call 32; refine (desk_lay_any w gd _ (.slice (some ⟨g5, 0, none⟩) n5 k5) (deskS p n5) none 0 [] H7.out.1 (Kd.C_nil _ _) (by simp) hdl5).mono ?_; rintro e w8 ⟨g8, k8, n8, rfl, h8a, h8b, hD8, hK8, hA8⟩; have H8 : Aside0 (DInv w gd w8 (.slice (some ⟨g8, 0, none⟩) n8 k8) (deskS [] n8) ∧ Kd.R (Kd.int .u8) 5 w8 W3.heap.size (fun _ => True) (.slice A4 want.length k4) want ∧ Kd.R (Kd.int .u8) 5 w8 w5.heap.size (fun _ => True) (.slice A6 want.length k6) want ∧ k58.R 58 w8 W3.heap.size (fun _ => True) (.slice E4 wbl.length j4) wbl ∧ k58.R 58 w8 w5.heap.size (fun _ => True) (.slice E6 wbl.length j6) wbl) := ⟨hD8, R_kp H7.out.2.1 hK8 HFAR4.out, R_kp H7.out.2.2.1 hK8 (fun k hk => ⟨by have := Kd.R_base H7.out.2.2.1 k hk; omega, fun e => by have := Kd.R_base H7.out.2.2.1 k hk; simp [Value.ownBlock] at e; omega⟩), U_kp H7.out.2.2.2.1 hK8 HFARU.out, U_kp H7.out.2.2.2.2 hK8 (fun k hk => ⟨by have := Kd.R_base H7.out.2.2.2.2 k hk; omega, fun e => by have := Kd.R_base H7.out.2.2.2.2 k hk; simp [Value.ownBlock] at e; omega⟩)⟩; clear hD8 hK8 hA8)
            | (go_at_call 34; refine (freightlaw11_num.calls _ _ _ rfl).mono ?_; rintro e w9 ⟨rfl, hd9⟩)
            | (go_at_call 35; refine (bytes_true _ _ _ _ want _ (Kd.R_reads' (Kd.R_below H8.out.2.2.1 hd9.below)).2.2 (Kd.R_reads' (Kd.R_below H8.out.2.1 hd9.below)).2.2 hwl).mono ?_; rintro e w10 ⟨rfl, hd10⟩)
            | (go_at_call 36; refine (rows_true _ _ _ _ wbl _ (Kd.R_reads' (Kd.R_below (Kd.R_below H8.out.2.2.2.2 hd9.below) hd10.below)).2.2 (Kd.R_reads' (Kd.R_below (Kd.R_below H8.out.2.2.2.1 hd9.below) hd10.below)).2.2 hwb).mono ?_; rintro e w11 ⟨rfl, hd11⟩))
          go_roundg k
          case measure => omega
          case rel => exact ⟨i + 1, by go_num, by omega, ⟨_, _, ((H8.out.1.step hd9.below).step hd10.below).step hd11.below, by simp [deskS]; omega⟩⟩
    | succ k =>
      have hi : i < l0.length := by omega
      have hi1 : (i : Int) < (l0.length : Int) := by omega
      obtain ⟨ad, Ap, cp, e, p0, -, -, -⟩ := at_Ask HR0.out (i : Int) (by omega) hi1
      cases e
      simp only [Int.toNat_natCast] at p0
      have hmem : rd_Ask l0 (i : Int) ∈ l0 := by
        rw [rd_Ask, Int.toNat_natCast, List.getD_eq_getElem?_getD, List.getElem?_eq_getElem hi]; exact List.getElem_mem hi
      have hlen := (HG.out _ hmem).1.1
      obtain ⟨m, hm⟩ : ∃ m, (rd_Ask l0 (i : Int)).f0.length = m := ⟨_, rfl⟩
      rw [hm] at p0 hlen
      have HM := Aside0.mk hm
      clear hm hmem
      by_cases hbig : n + m + 1 > 200000
      · have hb1 : (200000 : Int) < (n : Int) + (m : Int) + 1 := by omega
        go_wp2
        go_ret
        exact ⟨rfl, Below.refl _ _⟩
      · have hb1 : decide ((200000 : Int) < (n : Int) + (m : Int) + 1) = false := by simp; omega
        by_cases hbig2 : m > 70000
        · have hb2 : (70000 : Int) < (m : Int) := by omega
          go_wp2
          go_ret
          exact ⟨rfl, Below.refl _ _⟩
        have hb2 : decide ((70000 : Int) < (m : Int)) = false := by simp; omega
        have hb3 : decide (70000 < m) = false := by simp; omega
        go_wp2
        go_roundg k
        case measure => omega
        case rel => exact ⟨n + m + 1, i + 1, by go_num, by go_num, by omega, by omega, by omega, ⟨fun j hj => by
          by_cases hji : j < i
          · exact HL.out j hji
          · have : j = i := by omega
            subst this
            rw [HM.out]; omega⟩, rfl⟩
end Go.Proofs.Ytoefligelajfkaa.Block

namespace Go.Proofs.Ytoefligelajfkaa.Block
open Go.RowKit Go.Proofs.YtoefligelajfkaaW.PrintWords Go.Proofs.YtoefligelajfkaaW.PrintLast Go.Proofs.YtoefligelajfkaaW.PrintMore Go.Proofs.Ytoefligelajfkaa.Press
open Go.Proofs.Ytoefligelajfkaa.PBlockOpens (S58 k58 z58 k58_open k58_mk k58_mkM k58_openM rd_T58 at_T58)

/-- The cells of one block in a row of blocks. -/
structure CellsB (w : World) (g o : Nat) (b : S58) : Prop where
  c0 : w.cell? ⟨g, o, none⟩ = some (.int .i64 b.f0)
  c1 : w.cell? ⟨g, o + 1, none⟩ = some (.int .i64 b.f1)
  c2 : w.cell? ⟨g, o + 2, none⟩ = some (.int .i64 b.f2)
  c3 : w.cell? ⟨g, o + 3, none⟩ = some (.int .i64 b.f3)
theorem cellsB {w : World} {g n : Nat} {bl : List S58} (h : k58.C w (some ⟨g, 0, none⟩) n bl) (i : Nat) (hi : i < n) : CellsB w g (i * 4) (rd_T58 bl (i : Int)) := by
  obtain ⟨ad, e, a0, a1, a2, a3⟩ := at_T58 h (i : Int) (by omega) (by omega)
  cases e
  rw [Int.toNat_natCast, add_plain] at a0 a1 a2 a3
  exact ⟨a0, a1, a2, a3⟩

theorem cellsB' {w : World} {g n k e base : Nat} {bl : List S58} {b : S58} (h : k58.R e w base (fun _ => True) (.slice (some ⟨g, 0, none⟩) n k) bl) {i : Nat} (hb : rd_T58 bl (i : Int) = b) (hi : i < n) : CellsB w g (i * 4) b := by
  have h' := Kd.R_reads' h
  rw [← hb]
  exact cellsB h'.2.2 i (by rw [← h'.1]; exact hi)

/-- What a slice of bytes reads. -/
theorem C_range {w : World} {g n k a m : Nat} {l q : List Int} (h : Kd.C (Kd.int .u8) w (some ⟨g, 0, none⟩) n l) (hn : n ≤ k) (hm : 0 < m) (ha : a + m ≤ n) (hq : (l.take (a + m)).drop a = q) : Kd.C (Kd.int .u8) w (some ⟨g, a, none⟩) m q := by
  have hl := Kd.C_len h
  subst hl
  have h' := Kd.C_mid (lo := a) (hi := a + m) (c := k) h (by omega) ha hn
  rw [if_neg (by omega), hq] at h'
  have e : q.length = m := by rw [← hq]; simp; omega
  rw [e] at h'
  have e2 : (Option.map (fun x => x.add (a * (Kd.int IntKind.u8).sz)) (some (⟨g, 0, none⟩ : Addr))) = some ⟨g, a, none⟩ := by
    rw [show (Kd.int IntKind.u8).sz = 1 from rfl, Nat.mul_one, Option.map_some, add_plain]
  rw [e2] at h'
  exact h'

theorem rest_cons {α : Type} {l : List α} {k : Nat} (h : l.length = k + 1) : ∃ p t, l = p :: t := by
  cases l with
  | nil => simp at h
  | cons p t => exact ⟨p, t, rfl⟩

attribute [local go_sem ↓] Go.wp_at_zero Go.wp_at_succ
set_option maxRecDepth 100000 in
set_option maxHeartbeats 4000000 in
theorem back_loop (A0 : Option Addr) (c0 : Nat) (l0 : List Int) (n : Nat) (w : World) (hr0 : Kd.C (Kd.int .u8) w A0 l0.length l0) (hby : ∀ x ∈ l0, 0 ≤ x ∧ x ≤ 255) (hc0 : l0.length ≤ c0) (hl : l0.length ≤ 65536) (hs1 : 16 ≤ n) (hs2 : n ≤ 4096) :
    Calls Try.prog 15 #[.slice A0 l0.length c0, .int .i64 n] w fun e w' => e = .returned (.bool true) ∧ Below w.heap.size w w' := by
  have HR0 := Aside0.mk hr0
  clear hr0
  obtain ⟨cs, hcs⟩ : ∃ cs, chunksR l0 n l0.length 0 = cs := ⟨_, rfl⟩
  obtain ⟨out, hout⟩ : ∃ out, catS cs = out := ⟨_, rfl⟩
  obtain ⟨blk, hblk⟩ : ∃ blk, blocksR 0 cs = blk := ⟨_, rfl⟩
  have F1 : Aside0 (bpackS l0 n = (out, blk, 0)) := ⟨by rw [bpack_fits l0 n hs1 hs2 hl, hcs, hout, hblk]⟩
  have F2 : Aside0 (validS blk l0.length n = true) := ⟨by rw [← hblk, ← hcs]; exact back_valid l0 n hs1 hs2 hl hby⟩
  have F3 : Aside0 (validS blk ((l0.length : Int) + n) n = false) := ⟨by rw [← hblk, ← hcs]; exact back_invalid l0 n hs1 hs2 hl⟩
  have hol : out.length ≤ l0.length := by rw [← hout, ← hcs]; exact back_len l0 n hs1
  have F5 : Aside0 (cs.flatten = l0) := ⟨by rw [← hcs]; have := chunks_flat l0 n (by omega) l0.length 0 (by omega); rwa [List.drop_zero] at this⟩
  have F6 : Aside0 (∀ p ∈ cs, 1 ≤ p.length ∧ p.length ≤ 4096 ∧ ∀ x ∈ p, 0 ≤ x ∧ x ≤ 255) := ⟨fun p hp => by
    rw [← hcs] at hp
    have := chunks_mem l0 n (by omega) _ _ p hp
    exact ⟨this.1, by omega, fun x hx => hby x (this.2.2 x hx)⟩⟩
  have F7 : Aside0 (catS cs = out ∧ blocksR 0 cs = blk) := ⟨hout, hblk⟩
  have hcl : blk.length = cs.length := by rw [← hblk, blocks_len]
  have hbl : blk.length ≤ 70000 := by
    rw [hcl, ← hcs, chunks_len l0 n (by omega) _ _ (by omega) (by omega)]
    exact Nat.le_trans (Nat.div_le_self _ _) (by omega)
  have HCL := Aside0.mk hcl
  have hgt : decide ((l0.length : Int) < (out.length : Int)) = false := by simp; omega
  have hgt2 : decide (l0.length < out.length) = false := by simp; omega
  clear hcs hout hblk hcl
  go_enter Try.func15, Try.ntmps15
  go_wp2_with (first
    | (go_at_call 44; refine (fits_true _ _ _ _ _ hl (by omega) (by omega)).mono ?_; rintro e w1 ⟨rfl, rfl⟩)
    | (go_at_call 31; refine (bpack_any _ _ l0 (n : Int) _ HR0.out hby hc0 (by omega)).mono ?_; rw [F1.out]; rintro e w2 ⟨vo, vb, rfl, hRo, hRb, hB2⟩; obtain ⟨Ao, ko, rfl⟩ := Kd.R_slice hRo; obtain ⟨Ab, kb, rfl⟩ := Kd.R_slice hRb; have H2 := Aside0.mk (⟨hRo, hRb, hB2⟩ : _ ∧ _ ∧ _); clear hRo hRb hB2)
    | (go_at_call 40; (with_reducible refine (valid_any Ab kb blk (l0.length : Int) (n : Int) _ (Kd.R_reads' H2.out.2.1).2.2 (by omega)).mono ?_); rw [F2.out]; rintro e w3 ⟨rfl, hB3⟩)
    | (go_at_call 40; (with_reducible refine (valid_any Ab kb blk ((l0.length : Int) + (n : Int)) (n : Int) _ (Kd.C_below (Kd.R_reads' H2.out.2.1).2.2 hB3) (by omega)).mono ?_); rw [F3.out]; rintro e w4 ⟨rfl, hB4⟩))
  have HW : Aside0 (Kd.R (Kd.int .u8) 5 w4 w.heap.size (fun _ => True) (.slice Ao out.length ko) out ∧ k58.R 58 w4 w.heap.size (fun _ => True) (.slice Ab blk.length kb) blk ∧ Below w.heap.size w w4) :=
    ⟨Kd.R_below (Kd.R_below H2.out.1 hB3) hB4, Kd.R_below (Kd.R_below H2.out.2.1 hB3) hB4, below_step (below_step H2.out.2.2 hB3) hB4⟩
  clear H2 hB3 hB4 F1 F2 F3 hgt hgt2
  go_loopg [8, 9, 10] cs.length (fun k v8 v9 v10 w' => ∃ (done rest : List (List Int)) (fl : List Int) (Aa : Option Addr) (ka : Nat), v8 = .slice Aa fl.length ka ∧ v9 = .int .i64 ((catS done).length : Nat) ∧ v10 = .int .i64 (done.length : Nat) ∧ Aside0 (cs = done ++ rest ∧ done.flatten = fl) ∧ rest.length = k ∧
    Aside0 (Kd.R (Kd.int .u8) 5 w' w4.heap.size (fun _ => True) (.slice Aa fl.length ka) fl ∧ Below w4.heap.size w4 w'))
  case atStart => exact ⟨[], cs, [], none, 0, rfl, rfl, rfl, ⟨rfl, rfl⟩, rfl, ⟨Kd.R_nil _ _ _ _ _, Below.refl _ _⟩⟩
  case round =>
    obtain ⟨done, rest, fl, Aa, ka, rfl, rfl, rfl, HD, hk, HI⟩ := hrel
    cases gk with
    | zero =>
      have he : rest = [] := List.length_eq_zero_iff.1 hk
      subst he
      have hd : done = cs := by rw [HD.out.1, List.append_nil]
      subst hd
      have hfl : fl = l0 := by rw [← HD.out.2, F5.out]
      subst hfl
      have HA := HI.out.1
      have e1 : (catS done).length = out.length := by rw [F7.out.1]
      have e2 : done.length = blk.length := HCL.out.symm
      rw [e1, e2]
      have HAA := Aside0.mk HA
      clear HA e1 e2 hk
      go_wp2_with (first
        | (go_at_call 35; refine (bytes_true _ _ _ _ fl _ (Kd.R_reads' HAA.out).2.2 (Kd.C_below (Kd.C_below HR0.out HW.out.2.2) HI.out.2) (by omega)).mono ?_; rintro e w5 ⟨rfl, ⟨nd5, rfl⟩⟩)
        | (go_at_call 37; refine (known_any _).mono ?_; rintro e w6 ⟨rfl, hB6⟩))
      go_ret
      exact ⟨rfl, below_step (pw_below_drewN (below_step HW.out.2.2 HI.out.2) _) hB6⟩
    | succ k =>
      obtain ⟨p, t, rfl⟩ := rest_cons hk
      have hpm := F6.out p (by rw [HD.out.1]; simp)
      have hkt : t.length = k := by simpa using hk
      have hdl : done.length < blk.length := by rw [HCL.out, HD.out.1]; simp
      obtain ⟨q, hq⟩ : ∃ q, pieceS p = q := ⟨_, rfl⟩
      have hb : rd_T58 blk (done.length : Int) = blockS (catS done).length p := by rw [← F7.out.2, HD.out.1]; exact blocks_get done p t
      have hmid : (out.take ((catS done).length + q.length)).drop (catS done).length = q := by rw [← F7.out.1, HD.out.1, ← hq]; exact cat_mid done p t
      have hopen := open_piece (catS done).length hpm.1 hpm.2.1
      have hat : (catS done).length + q.length ≤ out.length := by
        rw [← F7.out.1, HD.out.1, cat_append, catS, List.length_append, List.length_append, hq]; omega
      have hq1 : 1 ≤ q.length := by rw [← hq]; exact pieceS_pos hpm.1 hpm.2.1
      have hq2 : q.length ≤ 4096 := by rw [← hq]; exact Nat.le_trans (pieceS_length p) hpm.2.1
      have hqb : ∀ x ∈ q, 0 ≤ x ∧ x ≤ 255 := by rw [← hq]; exact piece_bytes hpm.2.2
      obtain ⟨a, ha⟩ : ∃ a, (catS done).length = a := ⟨_, rfl⟩
      obtain ⟨d, hd⟩ : ∃ d, done.length = d := ⟨_, rfl⟩
      obtain ⟨ns, hns⟩ : ∃ ns, sumS q = ns := ⟨_, rfl⟩
      have hbs : blockS a p = ⟨a, q.length, p.length, ns⟩ := by rw [blockS, hq, hns]
      have hca : (catS (done ++ [p])).length = a + q.length := by rw [cat_append, catS, catS, List.append_nil, List.length_append, ha, hq]
      have hfl : (done ++ [p]).flatten = fl ++ p := by rw [← HD.out.2]; simp
      have hpl1 := hpm.1
      have hpl2 := hpm.2.1
      rw [ha] at hb hmid hopen hat ⊢
      rw [hd] at hb hdl ⊢
      rw [hbs] at hb
      rw [hbs, hq] at hopen
      have hRo := Kd.R_below HW.out.1 HI.out.2
      have hRb := Kd.R_below HW.out.2.1 HI.out.2
      obtain ⟨go, ko', eo, hgo1, hgo2, -⟩ := Kd.R_form hRo (by omega)
      obtain ⟨gb, kb', eb, hgb1, hgb2, -⟩ := Kd.R_form hRb (by omega)
      injection eo with eo1 _ eo2
      injection eb with eb1 _ eb2
      subst eo1 eo2 eb1 eb2
      have hko := (Kd.R_reads' hRo).2.1
      have hC := C_range (Kd.R_reads' hRo).2.2 hko hq1 hat hmid
      have hcb := cellsB (Kd.R_reads' hRb).2.2 d hdl
      rw [hb] at hcb
      obtain ⟨b0, b1, b2, b3⟩ := hcb
      simp only [] at b0 b1 b2 b3
      have HC := Aside0.mk hC
      have HO := Aside0.mk hopen
      have HNS := Aside0.mk hns
      have HX : Aside0 ((catS (done ++ [p])).length = a + q.length ∧ (done ++ [p]).length = d + 1 ∧ (done ++ [p]).flatten = fl ++ p ∧ cs = (done ++ [p]) ++ t) := ⟨hca, by rw [List.length_append, hd]; rfl, hfl, by rw [HD.out.1]; simp⟩
      have h1 : (0 : Int) ≤ (a : Int) := by omega
      have h2 : (a : Int) ≤ (a : Int) + (q.length : Int) := by omega
      have h3 : (a : Int) + (q.length : Int) ≤ (ko : Int) := by omega
      have h4 : (d : Int) < (blk.length : Int) := by omega
      have h5 : decide ((out.length : Int) < (a : Int) + (q.length : Int)) = false := by simp; omega
      have h6 : decide ((q.length : Int) < 1) = false := by simp; omega
      have h7 : (a : Int) + (q.length : Int) ≤ 70000 := by omega
      have h8 : IntKind.i64.wrap ((a : Int) + (q.length : Int)) = (a : Int) + (q.length : Int) := IntWalk.i64_in _ (by omega)
      have h9 : ((a : Int) + (q.length : Int)).toNat - a = q.length := by omega
      have h10 : ¬ ko = a := by omega
      have HBD := Aside0.mk hb
      have hfll : fl.length + p.length ≤ l0.length := by
        rw [← F5.out, HD.out.1, List.flatten_append, List.flatten_cons, List.length_append, List.length_append, HD.out.2]; omega
      clear hb hmid hopen hns hbs hca hfl hq ha hd hC hRo hRb hpm hk HCL
      go_wp2_with fail
      go_region_held3 (fun w' => w'.cell? ⟨gb, d * 4, none⟩ = some (.int .i64 a) ∧ w'.cell? ⟨gb, d * 4 + 1, none⟩ = some (.int .i64 q.length) ∧ w'.cell? ⟨gb, d * 4 + 3, none⟩ = some (.int .i64 ns)) (go_keep)
        (first | (go_at_call 45; refine (sum_any (some ⟨go, a, none⟩) (ko - a) q _ (Kd.C_drew HC.out) hqb (by omega)).mono ?_; rw [HNS.out]; rintro e w5 ⟨rfl, hB5⟩; have s0 := pw_cell_below hB5 b0; have s1 := pw_cell_below hB5 b1; have s2 := pw_cell_below hB5 b2; have s3 := pw_cell_below hB5 b3))
      go_wp2_with fail
      go_region_held3 (fun w' => w'.cell? ⟨gb, d * 4, none⟩ = some (.int .i64 a) ∧ w'.cell? ⟨gb, d * 4 + 1, none⟩ = some (.int .i64 q.length) ∧ w'.cell? ⟨gb, d * 4 + 2, none⟩ = some (.int .i64 p.length) ∧ w'.cell? ⟨gb, d * 4 + 3, none⟩ = some (.int .i64 ns)) (go_keep)
        (first | (go_at_call 39; refine (bopen_any (some ⟨go, a, none⟩) (ko - a) q a q.length p.length ns _ (Kd.C_drew (Kd.C_below (Kd.C_drew HC.out) hB5)) hqb (by omega)).mono ?_; rw [HO.out]; rintro e w6 ⟨v6, rfl, hR6, hB6⟩; obtain ⟨A6, k6, rfl⟩ := Kd.R_slice hR6; have t0 := pw_cell_below hB6 s0; have t1 := pw_cell_below hB6 s1; have t2 := pw_cell_below hB6 s2; have t3 := pw_cell_below hB6 s3))
      have HB6 : Aside0 (Below wr.heap.size wr w6) := ⟨below_step (below_step (below_drew (Below.refl _ _)) hB5 |> below_drew) hB6⟩
      have HR6 := Aside0.mk hR6
      have HY : Aside0 (Kd.R (Kd.int .u8) 5 w6 w4.heap.size (fun _ => True) (.slice Aa fl.length ka) fl ∧ k58.R 58 w6 w.heap.size (fun _ => True) (.slice (some ⟨gb, 0, none⟩) blk.length kb) blk ∧ Below w4.heap.size w4 w6) :=
        ⟨Kd.R_below HI.out.1 HB6.out, Kd.R_below (Kd.R_below HW.out.2.1 HI.out.2) HB6.out, below_step HI.out.2 HB6.out⟩
      clear b0 b1 b2 b3 s0 s1 s2 s3 hR6 hB6 hB5 HO HNS HC h5 h6
      go_wp2_with (at_builtin; refine Kd.R_append_rows (Kd.int .u8) (w0 := w4) w4.heap.size rfl (.tmp 122) (.tmp 123) 22 5 (.int .u8 0) 1 rfl Try.underlying22 info5 rfl (by decide) (by omega) (.slice Aa fl.length ka) fl p A6 p.length k6 (fun _ => True) (fun _ => False) rfl rfl HY.out.1 (Kd.R_reads' HR6.out).2.2 (fun _ _ h => h) (fun _ hk => hk.elim) (fun _ _ => trivial) HY.out.2.2 HY.out.2.2.size (by omega) ?_; intro v8 w8 ho8 hb8 hg8 hat8; obtain ⟨A8, k8, e8⟩ := Kd.R_slice ho8; subst e8; obtain ⟨r0, r1, r2, r3⟩ := cellsB' (Kd.R_over' (v := .slice Aa fl.length ka) (e' := 5) HY.out.2.1 (Kd.R_typed HY.out.1) (by decide) hg8) HBD.out hdl; have H8 := Aside0.mk (⟨ho8, hb8⟩ : _ ∧ _); clear ho8 hb8 hg8 hat8)
      go_roundg k
      case measure => omega
      case rel => exact ⟨done ++ [p], t, fl ++ p, A8, k8, by rw [List.length_append], by rw [HX.out.1]; go_num, by rw [HX.out.2.1]; go_num, ⟨HX.out.2.2.2, HX.out.2.2.1⟩, hkt, H8⟩

theorem blockBack_walk (A0 : Option Addr) (c0 : Nat) (l0 : List Int) (size : Int) (w : World) (hr0 : Kd.C (Kd.int .u8) w A0 l0.length l0) (hby : ∀ x ∈ l0, 0 ≤ x ∧ x ≤ 255) (hc0 : l0.length ≤ c0) (_hl : l0.length ≤ 140737488351232) (_h1 : -9223372036854775808 ≤ size ∧ size ≤ 9223372036854775807) :
    Calls Try.prog 15 #[.slice A0 l0.length c0, .int .i64 size] w fun e w' => e = .returned (.bool true) ∧ Below w.heap.size w w' := by
  by_cases hf : l0.length ≤ 65536 ∧ 16 ≤ size ∧ size ≤ 4096
  · obtain ⟨n, rfl⟩ := Int.eq_ofNat_of_zero_le (a := size) (by omega)
    exact back_loop A0 c0 l0 n w hr0 hby hc0 hf.1 (by omega) (by omega)
  · have HF := Aside0.mk hf
    clear hf hr0
    go_enter Try.func15, Try.ntmps15
    go_wp2_with (go_at_call 44; refine (fits_false _ _ _ _ _ HF.out).mono ?_; rintro e w1 ⟨rfl, rfl⟩)
    go_ret
    exact ⟨rfl, Below.refl _ _⟩
end Go.Proofs.Ytoefligelajfkaa.Block

namespace Go.Proofs.Ytoefligelajfkaa.Press
open Go.RowKit Go.Proofs.YtoefligelajfkaaW.PrintWords Go.Proofs.YtoefligelajfkaaW.PrintLast Go.Proofs.YtoefligelajfkaaW.PrintMore

/-- Nothing but this mark. -/
def AllM (y : List Int) (m : Int) : Prop := ∀ z, z ∈ y → z = m
theorem AllM.app {y : List Int} {m : Int} (h : AllM y m) : AllM (y ++ [m]) m := by
  intro z hz
  rcases List.mem_append.1 hz with hz | hz
  · exact h z hz
  · exact List.mem_singleton.1 hz
theorem AllM.at {y : List Int} {m : Int} (h : AllM y m) (k : Nat) (hk : k < y.length)   : rd y (k : Int) = m := by
  rw [rd_nat, List.getD_eq_getElem?_getD, List.getElem?_eq_getElem hk]
  exact h _ (List.getElem_mem hk)
/-- The first k of the row i bear the mark. -/
def Part (ys : List (List Int)) (i k : Nat) : Prop := ∀ y, ys[i]? = some y → ∀ t z, t < k → y[t]? = some z → z = (i : Int) + 1
def Done (ys : List (List Int)) (i : Nat) : Prop := ∀ j y, j < i → ys[j]? = some y → AllM y ((j : Int) + 1)

theorem outer_at {W : World} {b n c : Nat} {A : Option Addr} {us : List SlV} {uA : Option Addr} {un uc : Nat} (h : Outer W b (.slice A n c) us) (i : Nat) (hu : us[i]? = some ⟨uA, un, uc⟩) : ∃ g, A = some ⟨g, 0, none⟩ ∧ W.cell? ⟨g, i, none⟩ = some (.slice uA un uc) := by
  have hi : i < us.length := (List.getElem?_eq_some_iff.1 hu).1
  obtain ⟨g, cap, e, -⟩ := Kd.R_form h (by omega)
  injection e with e1 e2 e3
  subst e1 e2 e3
  have h2 := (Kd.R_celln (enc := SlV.v) (h1 := fun _ => rfl) ⟨none, 0, 0⟩ h (i : Int) (by omega) (by omega)).1
  refine ⟨g, rfl, ?_⟩
  simp only [Int.toNat_natCast] at h2
  rw [h2]
  have : rdOf (⟨none, 0, 0⟩ : SlV) us (i : Int) = ⟨uA, un, uc⟩ := by
    simp [rdOf, hu]
  rw [this]
  rfl

theorem own_form {W : World} {b un uc : Nat} {uA : Option Addr} {y : List Int} (h : Own W b (SlV.v ⟨uA, un, uc⟩) y) : un = y.length ∧ un ≤ uc ∧ (0 < un → ∃ g, uA = some ⟨g, 0, none⟩) := by
  obtain ⟨h1, h2, -⟩ := Kd.R_reads' h
  replace h1 : un = y.length := h1
  refine ⟨h1, h2, fun h0 => ?_⟩
  obtain ⟨g, cap, e, -⟩ := Kd.R_form h (by omega)
  injection e with e1 e2 e3
  exact ⟨g, e1⟩

theorem outer_off {W W1 : World} {b : Nat} {v : Value} {us : List SlV} {u : SlV} {y : List Int} (h : Outer W b v us) (hg : W.grownBy W1 u.v.ownBlock) (hu : Own W b u.v y) : Outer W1 b v us :=
  R_off rfl h hg (fun k hk e => by
    obtain ⟨cells, hc⟩ := Kd.R_typed hu k e.symm
    exact Kd.R_ne h hc (by decide) hk.symm)

/-- What the first loop of apart keeps. -/
def L1 (b : Nat) (w0 W : World) (v : Value) (all : List SlV) (i k : Nat) : Prop :=
  ∃ ys, Fam W b all ys ∧ Done ys i ∧ Part ys i k ∧ Outer W b v all ∧ Below b w0 W

theorem L1.next {b : Nat} {w0 W : World} {v : Value} {all : List SlV} {i k : Nat} {u : SlV} (h : L1 b w0 W v all i k) (hu : all[i]? = some u) (hk : u.n = k) : L1 b w0 W v all (i + 1) 0 := by
  obtain ⟨ys, h1, h2, h3, h4, h5⟩ := h
  refine ⟨ys, h1, ?_, ?_, h4, h5⟩
  · intro j y hj hy
    by_cases hji : j = i
    · subst hji
      have hr := h1.2.1 j u y hu hy
      have hl := (own_form (uA := u.A) (un := u.n) (uc := u.c) hr).1
      intro z hz
      obtain ⟨t, ht, e⟩ := List.getElem_of_mem hz
      exact h3 y hy t z (by omega) (by rw [List.getElem?_eq_getElem ht, e])
    · exact h2 j y (by omega) hy
  · intro y hy t z ht
    omega

theorem L1.put {b : Nat} {w0 W : World} {v : Value} {all : List SlV} {i k uc un g : Nat} (h : L1 b w0 W v all i k) (hu : all[i]? = some ⟨some ⟨g, 0, none⟩, un, uc⟩) (hk : k < un) :
    L1 b w0 (W.setCell ⟨g, k, none⟩ (.int .u8 ((i : Int) + 1))) v all i (k + 1) := by
  obtain ⟨ys, h1, h2, h3, h4, h5⟩ := h
  have hi : i < all.length := (List.getElem?_eq_some_iff.1 hu).1
  obtain ⟨u, y, hu', hy, hr⟩ := fam_get h1 hi
  rw [hu] at hu'
  cases hu'
  have hl := (own_form hr).1
  have hr' := hr
  obtain rfl : un = y.length := hl
  obtain ⟨hp, hg⟩ := Kd.R_put (enc := Value.int .u8) (h1 := fun _ => rfl) hr' (k : Int) ((i : Int) + 1)
  simp only [Int.toNat_natCast] at hp hg
  have hg' : W.grownBy (W.setCell ⟨g, k, none⟩ (.int .u8 ((i : Int) + 1))) (SlV.v ⟨some ⟨g, 0, none⟩, y.length, uc⟩).ownBlock := hg
  refine ⟨ys.set i (y.set k ((i : Int) + 1)), fam_put h1 hu hg' hp, ?_, ?_, outer_off h4 hg' hr, h5.setCell (Kd.R_base hr g rfl) _⟩
  · intro j y' hj hy'
    rw [List.getElem?_set_ne (by omega)] at hy'
    exact h2 j y' hj hy'
  · intro y' hy' t z ht hz
    rw [List.getElem?_set_self (by rw [← h1.1]; exact hi)] at hy'
    cases hy'
    by_cases htk : t = k
    · subst htk
      rw [List.getElem?_set_self hk] at hz
      cases hz
      rfl
    · rw [List.getElem?_set_ne (by omega)] at hz
      exact h3 y hy t z (by omega) hz

theorem L1.cell {b : Nat} {w0 W : World} {v : Value} {all : List SlV} {i k uc un : Nat} {uA : Option Addr} (h : L1 b w0 W v all i k) (hu : all[i]? = some ⟨uA, un, uc⟩) (hk : k < un) : ∃ g x, uA = some ⟨g, 0, none⟩ ∧ W.cell? ⟨g, k, none⟩ = some (.int .u8 x) ∧ W.frozen? ⟨g, k, none⟩ = false := by
  obtain ⟨ys, h1, h2, h3, h4, h5⟩ := h
  have hi : i < all.length := (List.getElem?_eq_some_iff.1 hu).1
  obtain ⟨u, y, hu', hy, hr⟩ := fam_get h1 hi
  rw [hu] at hu'
  cases hu'
  obtain ⟨hl, -, hf⟩ := own_form hr
  obtain ⟨g, rfl⟩ := hf (by omega)
  obtain ⟨h6, h7⟩ := Kd.R_celln (enc := Value.int .u8) (h1 := fun _ => rfl) (0 : Int) hr (k : Int) (by omega) (by show (k : Int) < (un : Int); omega)
  simp only [Int.toNat_natCast] at h6 h7
  exact ⟨g, _, rfl, h6, h7⟩
end Go.Proofs.Ytoefligelajfkaa.Press

namespace Go.Proofs.Ytoefligelajfkaa.Press
open Go.RowKit Go.Proofs.YtoefligelajfkaaW.PrintWords Go.Proofs.YtoefligelajfkaaW.PrintLast Go.Proofs.YtoefligelajfkaaW.PrintMore

/-- A row that has grown, and what it was: apart, or the one the other's head. -/
def PRel (v u : SlV) (x z : List Int) : Prop := (∀ k, u.v.ownBlock = some k → v.v.ownBlock ≠ some k) ∨ (u.A = v.A ∧ u.c = v.c ∧ z.take x.length = x ∧ v.n = x.length ∧ x.length ≤ z.length)

/-- What the second loop of apart keeps, between two rows. -/
def L2 (b b2 : Nat) (w0 W : World) (v : Value) (all : List SlV) (i : Nat) (v3 : Value) : Prop :=
  ∃ us xs zs, Fam2 W b all us xs zs ∧ Done xs all.length ∧ Done zs all.length ∧ Outer W b v all ∧ Outer W b v3 (us.take i) ∧ (∀ k, v3.ownBlock = some k → b2 ≤ k) ∧ (∀ k, v.ownBlock = some k → k < b2) ∧ Below b w0 W ∧
    (∀ j, i ≤ j → us[j]? = all[j]? ∧ xs[j]? = zs[j]?)

/-- And within a row. -/
def L2i (b b2 : Nat) (w0 W : World) (v : Value) (all : List SlV) (i : Nat) (v3 : Value) (u : SlV) (m : Nat) (z : List Int) : Prop :=
  ∃ us xs zs, Fam2 W b all us xs zs ∧ Done xs all.length ∧ Done zs all.length ∧ Outer W b v all ∧ Outer W b v3 (us.take i) ∧ (∀ k, v3.ownBlock = some k → b2 ≤ k) ∧ (∀ k, v.ownBlock = some k → k < b2) ∧ Below b w0 W ∧
    (∀ j, i < j → us[j]? = all[j]? ∧ xs[j]? = zs[j]?) ∧ us[i]? = some u ∧ u.n ≤ m ∧ zs[i]? = some z ∧ ∃ p x, all[i]? = some p ∧ xs[i]? = some x ∧ PRel p u x z

theorem L1.start2 {b : Nat} {w0 W : World} {v : Value} {all : List SlV} (h : L1 b w0 W v all all.length 0) : L2 b W.heap.size w0 W v all 0 (.slice none 0 0) := by
  obtain ⟨ys, h1, h2, h3, h4, h5⟩ := h
  refine ⟨all, ys, ys, fam2_start h1, h2, h2, h4, ?_, fun k hk => by simp [Value.ownBlock] at hk, Kd.R_lt h4, h5, fun j _ => ⟨rfl, rfl⟩⟩
  rw [List.take_zero]
  exact Kd.R_nil _ _ _ _ _

theorem L2.enter {b b2 : Nat} {w0 W : World} {v v3 : Value} {all : List SlV} {i : Nat} {u : SlV} {m : Nat} (h : L2 b b2 w0 W v all i v3) (hu : all[i]? = some u) (hm : u.n ≤ m) : ∃ z, L2i b b2 w0 W v all i v3 u m z := by
  obtain ⟨us, xs, zs, h1, h2, h3, h4, h5, h6, h7, h8, h9⟩ := h
  have hi : i < all.length := (List.getElem?_eq_some_iff.1 hu).1
  have hx : xs[i]? = some (xs[i]'(by rw [← h1.2.1, ← h1.1]; exact hi)) := List.getElem?_eq_getElem _
  refine ⟨_, us, xs, zs, h1, h2, h3, h4, h5, h6, h7, h8, fun j hj => h9 j (by omega), by rw [(h9 i (by omega)).1, hu], hm, by rw [← (h9 i (by omega)).2]; exact hx, u, _, hu, hx, .inr ⟨rfl, rfl, List.take_length, ?_, Nat.le_refl _⟩⟩
  exact (own_form (h1.2.2.2.1 i u _ hu hx)).1

theorem L2i.own {b b2 : Nat} {w0 W : World} {v v3 : Value} {all : List SlV} {i m : Nat} {u : SlV} {z : List Int} (h : L2i b b2 w0 W v all i v3 u m z) : Own W b u.v z ∧ u.n = z.length := by
  obtain ⟨us, xs, zs, h1, h2, h3, h4, h5, h6, h7, h8, h9, h10, h11, h14, p, x, h12, h13, h15⟩ := h
  have := h1.2.2.2.2.1 i u z h10 h14
  exact ⟨this, (own_form this).1⟩

theorem ownBlock_A (A : Option Addr) (n n' c c' : Nat) : (Value.slice A n c).ownBlock = (Value.slice A n' c').ownBlock := by cases A <;> rfl

/-- One byte more. -/
theorem L2i.app {b b2 : Nat} {w0 W w1 : World} {v v3 v1 : Value} {all : List SlV} {i m : Nat} {u : SlV} {z : List Int} (h : L2i b b2 w0 W v all i v3 u m z)
    (hv1 : Own w1 b v1 (z ++ [(i : Int) + 1])) (hB : Below b w0 w1) (hg : W.grownBy w1 u.v.ownBlock) (ho : Own w1 b u.v z)
    (hat : (∃ A c, u.v = .slice A z.length c ∧ v1 = .slice A (z.length + 1) c) ∨ ∃ k, v1.ownBlock = some k ∧ W.heap.size ≤ k) :
    ∃ A n c, v1 = .slice A n c ∧ L2i b b2 w0 w1 v all i v3 ⟨A, n, c⟩ (m + 1) (z ++ [(i : Int) + 1]) := by
  obtain ⟨us, xs, zs, h1, h2, h3, h4, h5, h6, h7, h8, h9, h10, h11, h14, p, x, h12, h13, h15⟩ := h
  obtain ⟨A, c, rfl⟩ := Kd.R_slice hv1
  have hu := h1.2.2.2.2.1 i u z h10 h14
  have hp := h1.2.2.2.1 i p x h12 h13
  have hun := (own_form hu).1
  have hil : i < us.length := (List.getElem?_eq_some_iff.1 h10).1
  have hizl : i < zs.length := (List.getElem?_eq_some_iff.1 h14).1
  have hial : i < all.length := (List.getElem?_eq_some_iff.1 h12).1
  have hp1 : Own w1 b p.v x := by
    rcases h15 with h15 | ⟨e1, e2, e3, e4, e5⟩
    · exact R_off rfl hp hg (fun k hk e => h15 k e.symm hk)
    · have h := Kd.R_take (m := x.length) ho e5
      rw [e3] at h
      obtain ⟨pA, pn, pc⟩ := p
      subst e1 e2 e4
      exact h
  have hat2 : (SlV.v ⟨A, (z ++ [(i : Int) + 1]).length, c⟩).ownBlock = u.v.ownBlock ∨ ∃ k, (SlV.v ⟨A, (z ++ [(i : Int) + 1]).length, c⟩).ownBlock = some k ∧ W.heap.size ≤ k := by
    rcases hat with ⟨A', c', e1, e2⟩ | hat
    · left
      injection e2 with e3 e4 e5
      subst e3 e5
      rw [e1]
      exact ownBlock_A _ _ _ _ _
    · exact .inr hat
  have hF : Fam2 w1 b all (us.set i ⟨A, (z ++ [(i : Int) + 1]).length, c⟩) xs (zs.set i (z ++ [(i : Int) + 1])) := fam2_grow h1 h12 h13 h10 hg hp1 hv1 hat2
  refine ⟨A, _, c, rfl, _, xs, _, hF, h2, ?_, outer_off h4 hg hu, ?_, h6, h7, hB, ?_, List.getElem?_set_self hil, by show (z ++ [(i : Int) + 1]).length ≤ m + 1; rw [List.length_append, List.length_singleton]; omega, List.getElem?_set_self hizl, p, x, h12, h13, ?_⟩
  · intro j y hj hy
    by_cases hji : j = i
    · subst hji
      rw [List.getElem?_set_self hizl] at hy
      cases hy
      exact (h3 j z hj h14).app
    · rw [List.getElem?_set_ne (by omega)] at hy
      exact h3 j y hj hy
  · rw [List.take_set_of_le (by omega)]
    exact outer_off h5 hg hu
  · intro j hj
    rw [List.getElem?_set_ne (by omega), List.getElem?_set_ne (by omega)]
    exact h9 j hj
  · rcases hat with ⟨A', c', e1, e2⟩ | ⟨k, hk, hlk⟩
    · injection e2 with e3 e4 e5
      subst e3 e5
      obtain ⟨uA, un, uc⟩ := u
      injection e1 with e6 e7 e8
      subst e6 e8
      rcases h15 with h15 | ⟨e1, e2, e3, e4, e5⟩
      · exact .inl (fun k hk => h15 k (hk ▸ ownBlock_A _ _ _ _ _))
      · exact .inr ⟨e1, e2, by rw [List.take_append_of_le_length e5]; exact e3, e4, by rw [List.length_append]; omega⟩
    · left
      intro k' hk' e
      replace hk' : (Value.slice A (z ++ [(i : Int) + 1]).length c).ownBlock = some k' := hk'
      rw [hk] at hk'
      cases hk'
      have := Kd.R_lt hp k e
      omega

/-- A row's end: its header joins the list of the longer. -/
theorem L2i.next {b b2 : Nat} {w0 W : World} {v v3 : Value} {all : List SlV} {i m : Nat} {u : SlV} {z : List Int} (h : L2i b b2 w0 W v all i v3 u m z) (hb2 : b2 ≤ W.heap.size) :
    ∃ ts : List SlV, ts.length = i ∧ Outer W b v3 ts ∧ Below b w0 W ∧ ∀ (v1 : Value) (w1 : World), Outer w1 b v1 (ts ++ [u]) → Below b w0 w1 → W.grownBy w1 v3.ownBlock → (v1.ownBlock = v3.ownBlock ∨ ∃ k, v1.ownBlock = some k ∧ W.heap.size ≤ k) → L2 b b2 w0 w1 v all (i + 1) v1 := by
  obtain ⟨us, xs, zs, h1, h2, h3, h4, h5, h6, h7, h8, h9, h10, h11, h14, p, x, h12, h13, h15⟩ := h
  have hil : i < us.length := (List.getElem?_eq_some_iff.1 h10).1
  refine ⟨us.take i, by rw [List.length_take]; omega, h5, h8, ?_⟩
  intro v1 w1 hv1 hB hg hat
  refine ⟨us, xs, zs, fam2_off h1 hg (fun k hk => Kd.R_typed h5 k hk), h2, h3, R_off rfl h4 hg (fun k hk e => ?_), ?_, ?_, h7, hB, fun j hj => h9 j (by omega)⟩
  · have h1 := h7 k hk
    have h2 := h6 k e.symm
    omega
  · rw [List.take_succ_eq_append_getElem hil]
    have e : us[i] = u := by have := List.getElem?_eq_getElem hil; rw [h10] at this; exact (Option.some.inj this).symm
    rw [e]
    exact hv1
  · intro k hk
    rcases hat with hat | ⟨k', hk', hl⟩
    · exact h6 k (hat ▸ hk)
    · rw [hk'] at hk
      cases hk
      omega

theorem L2.slice3 {b b2 : Nat} {w0 W : World} {v v3 : Value} {all : List SlV} {i : Nat} (h : L2 b b2 w0 W v all i v3) : ∃ A n c, v3 = .slice A n c := by
  obtain ⟨us, xs, zs, h1, h2, h3, h4, h5, h6, h7, h8, h9⟩ := h
  obtain ⟨A, c, e⟩ := Kd.R_slice h5
  exact ⟨A, _, c, e⟩

theorem info22 : (Try.prog.info? 22).map (fun i => (i.zero, i.size, i.bytes)) = some (some (.slice none 0 0), 1, 24) := by kernel_rfl

theorem own_cells {W : World} {b un uc : Nat} {uA : Option Addr} {y : List Int} {m : Int} (h : Own W b (SlV.v ⟨uA, un, uc⟩) y) (hm : AllM y m) (k : Nat) (hk : k < un) : ∃ g, uA = some ⟨g, 0, none⟩ ∧ W.cell? ⟨g, k, none⟩ = some (.int .u8 m) := by
  obtain ⟨hl, -, hf⟩ := own_form h
  obtain ⟨g, rfl⟩ := hf (by omega)
  have h6 := (Kd.R_celln (enc := Value.int .u8) (h1 := fun _ => rfl) (0 : Int) h (k : Int) (by omega) (by show (k : Int) < (un : Int); omega)).1
  simp only [Int.toNat_natCast] at h6
  have e : rdOf (0 : Int) y (k : Int) = m := hm.at k (by omega)
  rw [e] at h6
  exact ⟨g, rfl, h6⟩

theorem L2.len {b b2 : Nat} {w0 W : World} {v : Value} {all : List SlV} {A3 : Option Addr} {n3 c3 : Nat} (h : L2 b b2 w0 W v all all.length (.slice A3 n3 c3)) : n3 = all.length := by
  obtain ⟨us, xs, zs, h1, h2, h3, h4, h5, h6, h7, h8, h9⟩ := h
  have := (Kd.R_reads' h5).1
  rw [List.length_take, ← h1.1] at this
  omega

/-- What the third loop of apart reads. -/
theorem L2.row {b b2 : Nat} {w0 W : World} {A0 A3 : Option Addr} {n0 n3 c0 c3 : Nat} {all : List SlV} (h : L2 b b2 w0 W (.slice A0 n0 c0) all all.length (.slice A3 n3 c3)) (i : Nat) (hi : i < all.length) :
    ∃ vA vn vc uA un uc, (∃ g, A0 = some ⟨g, 0, none⟩ ∧ W.cell? ⟨g, i, none⟩ = some (.slice vA vn vc)) ∧ (∃ g, A3 = some ⟨g, 0, none⟩ ∧ W.cell? ⟨g, i, none⟩ = some (.slice uA un uc)) ∧ un ≤ 9223372036854775807 ∧ vn ≤ 9223372036854775807 ∧
      (∀ k, k < un → ∃ g, uA = some ⟨g, 0, none⟩ ∧ W.cell? ⟨g, k, none⟩ = some (.int .u8 ((i : Int) + 1))) ∧ ∀ k, k < vn → ∃ g, vA = some ⟨g, 0, none⟩ ∧ W.cell? ⟨g, k, none⟩ = some (.int .u8 ((i : Int) + 1)) := by
  obtain ⟨us, xs, zs, h1, h2, h3, h4, h5, h6, h7, h8, h9⟩ := h
  obtain ⟨e1, e2, e3, e4, e5, e6⟩ := h1
  obtain ⟨⟨vA, vn, vc⟩, hv⟩ : ∃ v, all[i]? = some v := ⟨_, List.getElem?_eq_getElem hi⟩
  obtain ⟨⟨uA, un, uc⟩, hu⟩ : ∃ u, us[i]? = some u := ⟨_, List.getElem?_eq_getElem (by omega)⟩
  obtain ⟨x, hx⟩ : ∃ x, xs[i]? = some x := ⟨_, List.getElem?_eq_getElem (by omega)⟩
  obtain ⟨z, hz⟩ : ∃ z, zs[i]? = some z := ⟨_, List.getElem?_eq_getElem (by omega)⟩
  have hV := e4 i _ x hv hx
  have hU := e5 i _ z hu hz
  refine ⟨vA, vn, vc, uA, un, uc, outer_at h4 i hv, outer_at h5 i (by rw [List.getElem?_take]; rw [if_pos hi]; exact hu), ?_, ?_, own_cells hU (h3 i z hi hz), own_cells hV (h2 i x hi hx)⟩
  · rw [(own_form hU).1]; exact Kd.C_max (Kd.R_reads' hU).2.2
  · rw [(own_form hV).1]; exact Kd.C_max (Kd.R_reads' hV).2.2
end Go.Proofs.Ytoefligelajfkaa.Press

namespace Go.Proofs.Ytoefligelajfkaa.Own
open Go.RowKit Go.Proofs.YtoefligelajfkaaW.PrintWords Go.Proofs.YtoefligelajfkaaW.PrintLast Go.Proofs.YtoefligelajfkaaW.PrintMore Go.Proofs.Ytoefligelajfkaa.Press Go.Proofs.Ytoefligelajfkaa.Sep Go.Proofs.Ytoefligelajfkaa.Block Go.Proofs.Ytoefligelajfkaa.OpenK
open Go.Proofs.Ytoefligelajfkaa.PBlockOpens (S58 k58 z58 k58_open k58_mk k58_mkM k58_openM rd_T58 at_T58 freightlaw11_turn.f freightlaw11_turn.calls)

theorem run_make_rowN {P : Program} (t e : TypeId) (i : TypeInfo) (z : Value) (ht : P.underlying t = some (.slice e)) (hi : P.info? e = some i) (hz : i.zero = some z)
    (kl kc : IntKind) (n c : Nat) (hnc : n ≤ c) (hbytes : i.bytes * c ≤ 281474976710656) (h63 : c ≤ 9223372036854775807) (w : World) :
    (Instr.makeSlice t (.int kl (n : Int)) (.int kc (c : Int))).run P w = .ok (.slice (some ⟨w.heap.size, 0, none⟩) n c) (w.alloc (.cells (madeCells z.cells (c * i.size)) e)) := by
  have hb : (i.bytes : Int) * (c : Int) ≤ 281474976710656 := by
    have h : ((i.bytes * c : Nat) : Int) ≤ 281474976710656 := by omega
    rwa [Int.natCast_mul] at h
  have hr := run_make (P := P) w t e i z ht hi hz kl kc n c (by omega) (by omega) hb (by omega)
  simp only [Int.toNat_natCast] at hr
  exact hr
/-- make([]byte, 0, m) -/
theorem make_room (m : Nat) (hm : m ≤ 281474976710656) (w : World) : (Instr.makeSlice 22 (.int .i64 0) (.int .i64 (m : Int))).run Try.prog w = .ok (.slice (some ⟨w.heap.size, 0, none⟩) 0 m) (w.alloc (.cells (madeCells #[.int .u8 0] m) 5)) := by
  obtain ⟨i0, hi, hzz⟩ := Option.map_eq_some_iff.1 info5
  simp only [Prod.mk.injEq] at hzz
  obtain ⟨hz0, hz1, hz2⟩ := hzz
  have h := run_make_rowN (P := Try.prog) 22 5 i0 (.int .u8 0) Try.underlying22 hi hz0 .i64 .i64 0 m (Nat.zero_le _) (by rw [hz2]; omega) (by omega) w
  rw [hz1, Nat.mul_one] at h
  exact h
theorem room_row (m : Nat) (hm : m ≤ 281474976710656) (W : World) (base : Nat) (hb : base ≤ W.heap.size) : Kd.R (Kd.int .u8) 5 (W.alloc (.cells (madeCells #[.int .u8 0] m) 5)) base (fun _ => True) (.slice (some ⟨W.heap.size, 0, none⟩) 0 m) [] :=
  Kd.R_of_own (enc := Value.int .u8) (h1 := fun _ => rfl) ⟨by simp [encs], .inr ⟨W.heap.size, m, _, rfl, hb, heap_alloc_new W _, Nat.zero_le _, by unfold maxLen; omega, by simp [size_madeCells], by simp [encs]⟩⟩ (fun _ _ => trivial)

def nilS : SlV := ⟨none, 0, 0⟩
theorem OI.start (w : World) : OI w.heap.size w.heap.size w (w.alloc (.cells #[.slice none 0 0, .slice none 0 0] 74)) 0 nilS nilS [] [] [] [] 0 (fun _ => empP) empP 0 0 := by
  refine ⟨⟨fun g => if g = w.heap.size then .book else .box, nilS, nilS, [], [], ⟨below_alloc (Below.refl _ _) _, fun K => ?_⟩, by simp, by simp, by simp, by simp⟩, rfl, rfl, by simp⟩
  have hnil : ∀ e sz, (w.alloc (.cells #[.slice none 0 0, .slice none 0 0] 74)).ownsRow w.heap.size e sz nilS.v nilS.n [] := fun e sz => own_nil _ _ _ _
  have hno : ∀ g, nilS.v.ownBlock = some g → False := fun g h => by simp [nilS, SlV.v, Value.ownBlock] at h
  cases K with
  | book => exact ⟨heap_alloc_new w _, Nat.le_refl _, by simp⟩
  | rows => exact ⟨hnil _ _, fun g h => (hno g h).elim⟩
  | lists => exact ⟨hnil _ _, fun g h => (hno g h).elim⟩
  | lefts => exact ⟨hnil _ _, fun g h => (hno g h).elim⟩
  | wants => exact ⟨hnil _ _, fun g h => (hno g h).elim⟩
  | row k => exact trivial
  | lst k => exact trivial
  | left i => simp only [stS, XS]; exact trivial
  | want i => simp only [stS, XS]; exact trivial
  | _ => exact trivial

/-- The rows that a question's round keeps at hand. -/
structure InT (kb : Nat) (T : Nat → Pr) (u0 u1 u2 : SlV) (r out : List Int) (blk : List S58) : Prop where
  t0 : T 0 = rowP kb 5 1 u0 (nums .u8 r)
  t1 : T 1 = rowP kb 5 1 u1 (nums .u8 out)
  t2 : T 2 = rowP kb 58 4 u2 (blk.flatMap enc58)
theorem InT.up {kb : Nat} {T : Nat → Pr} {u0 u1 u2 : SlV} {r out : List Int} {blk : List S58} (h : InT kb T u0 u1 u2 r out blk) {k : Nat} (hk : 3 ≤ k) (P : Pr) : InT kb (upT T k P) u0 u1 u2 r out blk :=
  ⟨by rw [upT_ne _ _ (by omega)]; exact h.t0, by rw [upT_ne _ _ (by omega)]; exact h.t1, by rw [upT_ne _ _ (by omega)]; exact h.t2⟩

theorem fits_quiet {n c : Nat} {A : Option Addr} {size : Int} (w : World) (v : Bool) (h : Calls Try.prog 44 #[.slice A n c, .int .i64 size] w fun e w' => e = .returned (.bool v) ∧ w = w') : Calls Try.prog 44 #[.slice A n c, .int .i64 size] w fun e w' => e = .returned (.bool v) ∧ w' = w :=
  h.mono fun _ _ h => ⟨h.1, h.2.symm⟩

attribute [local go_sem ↓] Go.wp_at_zero Go.wp_at_succ
set_option maxRecDepth 100000 in
set_option maxHeartbeats 8000000 in
theorem blockOwn_walk (A0 : Option Addr) (c0 : Nat) (l0 : List SAsk) (w : World) (hr0 : kAsk.C w A0 l0.length l0) (_hc0 : l0.length ≤ c0) (hz : l0.length * 32 ≤ 140737488351232) (hg : ∀ x ∈ l0, GoodB x.f0 ∧ (Lit.int .i64 x.f1).wf = true) :
    Calls Try.prog 18 #[.slice A0 l0.length c0] w fun e w' => e = .returned (.bool true) ∧ Below w.heap.size w w' := by
  have HR0 := Aside0.mk hr0
  have HG := Aside0.mk hg
  have hl : l0.length ≤ 140737488355328 := by omega
  clear hr0 hg _hc0 hz
  go_enter Try.func18, Try.ntmps18
  go_wp2
  go_loopg [3, 4] l0.length (fun k v3 v4 w' => ∃ n i : Nat, v3 = .int .i64 n ∧ v4 = .int .i64 i ∧ i + k = l0.length ∧ i ≤ n ∧ n ≤ 70000 ∧ Aside0 (∀ j, j < i → (rd_Ask l0 (j : Int)).f0.length ≤ 65536 ∧ 16 ≤ (rd_Ask l0 (j : Int)).f1 ∧ (rd_Ask l0 (j : Int)).f1 ≤ 4096) ∧ Aside0 (Drawn0 w w'))
  case atStart => exact ⟨0, 0, rfl, rfl, by omega, by omega, by omega, ⟨fun j h => absurd h (by omega)⟩, ⟨Drawn0.refl _⟩⟩
  case round =>
    obtain ⟨n, i, rfl, rfl, hik, hin, hn, HL, HD⟩ := hrel
    cases gk with
    | zero =>
      have hi : i = l0.length := by omega
      subst hi
      have hl2 : l0.length ≤ 70000 := by omega
      have hl3 : (l0.length : Int) ≤ 70000 := by omega
      have HI0 := Aside0.mk (OI.start wr)
      obtain ⟨kb, hkb⟩ : ∃ kb, wr.heap.size = kb := ⟨_, rfl⟩
      have HKB := Aside0.mk hkb
      obtain ⟨wo, rfl⟩ : ∃ wo : World, wo = wr := ⟨_, rfl⟩
      rw [hkb] at HI0
      clear hkb hik hin hn
      go_wp2
      rw [HKB.out]
      go_loopg [6, 7, 8] (2 * l0.length) (fun k v6 v7 v8 w' => ∃ (i : Nat) (A6 A7 : Option Addr) (c6 c7 : Nat) (us ws : List SlV) (ys : List (List Int)), v6 = .slice A6 us.length c6 ∧ v7 = .slice A7 ws.length c7 ∧ v8 = .int .i64 i ∧ i + k = 2 * l0.length ∧ us.length ≤ 9 * i ∧ Aside0 (OI kb kb wo w' 0 ⟨A6, us.length, c6⟩ ⟨A7, ws.length, c7⟩ us ws ys ys 0 (fun _ => empP) empP (9 * i) i))
      case atStart => exact ⟨0, none, none, 0, 0, [], [], [], rfl, rfl, rfl, by omega, by simp, HI0⟩
      case round =>
        clear HI0
        obtain ⟨i, A6, A7, c6, c7, us, ws, ys, rfl, rfl, rfl, hik, husl, HI⟩ := hrel
        have hkw : Aside0 (kb ≤ wo.heap.size) := ⟨by rw [HKB.out]; exact Nat.le_refl _⟩
        cases gk with
        | zero =>
          obtain rfl : i = 2 * l0.length := by omega
          have hR1 : Aside0 (0 + 64 * (9 * (2 * l0.length) + 2 * l0.length) ≤ 1000000000) := ⟨by omega⟩
          obtain ⟨R1, hR1e⟩ : ∃ R1, 0 + 64 * (9 * (2 * l0.length) + 2 * l0.length) = R1 := ⟨_, rfl⟩
          rw [hR1e] at hR1
          have HR1 := Aside0.mk hR1e
          obtain ⟨i, hie⟩ : ∃ i, 2 * l0.length = i := ⟨_, rfl⟩
          have hi14 : i ≤ 140000 := by omega
          have hdec : decide ((i : Int) < 2 * (l0.length : Int)) = false := by simp; omega
          have HLW : Aside0 (us.length = ws.length) := ⟨by rw [HI.out.lu, HI.out.lw]⟩
          rw [hie] at HI husl HR1 ⊢
          clear hie hik hR1e
          have hus : us.length ≤ 1300000 := by omega
          go_wp2_with (go_at_call 49; (with_reducible refine (HI.out.grow hkw.out (by omega) (by omega) (by omega)).mono ?_); rintro e w1 ⟨rfl, hI1⟩; rw [HR1.out] at hI1; have HI1 := Aside0.mk hI1; clear hI1)
          clear HI
          go_loopg [25] us.length (fun q v25 w' => ∃ j : Nat, v25 = .int .i64 j ∧ j + q = us.length ∧ Aside0 (Drawn0 w1 w'))
          case atStart => exact ⟨0, rfl, by omega, ⟨Drawn0.refl _⟩⟩
          case round =>
            obtain ⟨j, rfl, hjq, HD1⟩ := hrel
            cases gk with
            | zero =>
              obtain rfl : j = us.length := by omega
              have HI2 := Aside0.mk (HI1.out.below hkw.out HD1.out.below)
              clear HI1 HD1 hjq
              go_wp2
              go_loopg [26] us.length (fun q v26 w' => ∃ j : Nat, v26 = .int .i64 j ∧ j + q = us.length ∧ Aside0 (OI kb kb wo w' R1 ⟨A6, us.length, c6⟩ ⟨A7, ws.length, c7⟩ us ws ys ys j (fun _ => empP) empP (9 * i + j) i))
              case atStart => exact ⟨0, rfl, by omega, HI2⟩
              case round =>
                clear HI2
                obtain ⟨j, rfl, hjq, HI3⟩ := hrel
                cases gk with
                | zero =>
                  obtain rfl : j = us.length := by omega
                  clear hjq
                  go_wp2_with (first
                    | (go_at_call 49; (with_reducible refine (HI3.out.grow hkw.out (by have := hR1.out; omega) (by omega) (by omega)).mono ?_); rintro e w4 ⟨rfl, hI4⟩; have HI4 := Aside0.mk hI4; clear hI4)
                    | (go_at_call 48; (with_reducible refine (HI4.out.still hkw.out (by have := hR1.out; omega) (by omega) (by omega)).mono ?_); rintro e w5 ⟨rfl, hB5⟩; have HI5 := Aside0.mk (HI4.out.below hkw.out hB5); clear hB5)
                    | (go_at_call 37; refine (known_any _).mono ?_; rintro e w6 ⟨rfl, hB6⟩))
                  go_ret
                  exact ⟨rfl, below_step (below_step HD.out.below (by have := HI5.out.bel; rw [← HKB.out] at this; exact this)) hB6⟩
                | succ q =>
                  have hj : j < us.length := by omega
                  have hj2 : (j : Int) < (us.length : Int) := by omega
                  obtain ⟨⟨uA, un, uc⟩, hu⟩ : ∃ u, us[j]? = some u := ⟨_, List.getElem?_eq_getElem hj⟩
                  obtain ⟨gL, eL, hcap, q0⟩ := HI3.out.leftCell hu
                  simp only at eL
                  subst eL
                  have HU := Aside0.mk hu
                  clear hu
                  go_wp2_with (go_at_call 46; have hT : Calls Try.prog 46 _ wr _ := HI3.out.takeLeft hkw.out HU.out (by omega); (with_reducible refine hT.mono ?_); rintro e w4 ⟨rfl, hI4⟩; have HI4 := Aside0.mk hI4; clear hI4 hT)
                  go_roundg q
                  case measure => omega
                  case rel => exact ⟨j + 1, by go_num, by omega, HI4⟩
            | succ q =>
              have hj : j < us.length := by omega
              have hj2 : (j : Int) < (us.length : Int) := by omega
              have hj0 : (0 : Int) ≤ (j : Int) := by omega
              have hj3 : j < ws.length := by rw [← HLW.out]; exact hj
              have hj4 : (j : Int) < (ws.length : Int) := by omega
              obtain ⟨gL, gW, A, c, A', c', y, eL, eW, q0, q1, hc1, hc2, hyl⟩ := (HI1.out.below hkw.out HD1.out.below).at_ rfl hj
              simp only at eL eW
              subst eL eW
              have HC1 := Aside0.mk (And.intro hc1 hc2)
              clear hc1 hc2
              go_wp2
              go_quiet ((go_at_call 35; exact Calls.quiet_of ((bytes_true _ _ _ _ y _ (Kd.C_drewN HC1.out.1 _) (Kd.C_drewN HC1.out.2 _) (by omega)).mono (fun _ _ h => ⟨h.1, h.2.out⟩))))
              go_wp2
              go_roundg q
              case measure => omega
              case rel => exact ⟨j + 1, by go_num, by omega, ⟨HD1.out.step _⟩⟩
        | succ k =>
          have hi1 : (i : Int) < 2 * (l0.length : Int) := by omega
          obtain ⟨d, hdl, hdf⟩ := turn_f i l0.length (by omega) (by omega)
          have HDF := Aside0.mk hdf
          have hd1 : (d : Int) < (l0.length : Int) := by omega
          have hbw : Below wo.heap.size wo wr := by have := HI.out.bel; rw [← HKB.out] at this; exact this
          obtain ⟨ad, Ap, cp, e, p0, p1, hcp, hCp⟩ := at_Ask (Kd.C_below (Kd.C_below HR0.out HD.out.below) hbw) (d : Int) (by omega) hd1
          cases e
          simp only [Int.toNat_natCast] at p0 p1
          have hmem : rd_Ask l0 (d : Int) ∈ l0 := by
            rw [rd_Ask, Int.toNat_natCast, List.getD_eq_getElem?_getD, List.getElem?_eq_getElem hdl]; exact List.getElem_mem hdl
          have hgood := (HG.out _ hmem).1.bytes
          obtain ⟨hf1, hf2, hf3⟩ := HL.out d hdl
          obtain ⟨⟨r, sz0⟩, hx⟩ : ∃ x, rd_Ask l0 (d : Int) = x := ⟨_, rfl⟩
          rw [hx] at p0 p1 hcp hCp hgood hf1 hf2 hf3
          simp only [] at p0 p1 hcp hCp hgood hf1 hf2 hf3
          obtain ⟨sz, rfl⟩ := Int.eq_ofNat_of_zero_le (a := sz0) (by omega)
          have HCP := Aside0.mk hCp
          have HPO : Aside0 (Kd.C (Kd.int .u8) wo Ap r.length r) := ⟨by
            obtain ⟨ad', Ap', cp', e', p0', -, -, hC'⟩ := at_Ask (Kd.C_below HR0.out HD.out.below) (d : Int) (by omega) hd1
            cases e'
            have h1 := pw_cell_below hbw p0'
            simp only [Int.toNat_natCast] at h1
            rw [p0, hx] at h1
            injection h1 with h1
            injection h1 with q1 _ _
            rw [q1]
            rw [hx] at hC'
            exact hC'⟩
          have HGD := Aside0.mk hgood
          clear hx hmem hdf hbw hCp hgood
          go_upto_region 15 with (go_at_call 29; refine (freightlaw11_turn.calls _ _ _ _ HDF.out).mono ?_; rintro e w2 ⟨rfl, hd2⟩; have q0 := pw_cell_below hd2.below p0; have q1 := pw_cell_below hd2.below p1; have HI2 := Aside0.mk (HI.out.below hkw.out hd2.below); have HCP2 := Aside0.mk (Kd.C_below HCP.out hd2.below))
          obtain ⟨gx, hgx⟩ : ∃ gx, w2.heap.size = gx := ⟨_, rfl⟩
          have HI3 := Aside0.mk (HI2.out.box hkw.out #[.slice Ap r.length cp, .int .i64 (sz : Int)] 42)
          have HCP3 := Aside0.mk (Kd.C_alloc HCP2.out (.cells #[.slice Ap r.length cp, .int .i64 (sz : Int)] 42))
          rw [hgx]
          rw [hgx] at HI3
          clear hgx p0 p1 q0 q1 HI HI2 HDF hd2 HCP HCP2
          generalize w2.alloc (.cells #[.slice Ap r.length cp, .int .i64 (sz : Int)] 42) = W3 at HI3 HCP3
          obtain ⟨y0, y1⟩ := cells2 HI3.out.blk
          have hmk : ∀ W, (Instr.makeSlice 22 (.int .i64 0) (.int .i64 ((r.length : Int) + 70))).run Try.prog W = .ok (.slice (some ⟨W.heap.size, 0, none⟩) 0 (r.length + 70)) (W.alloc (.cells (madeCells #[.int .u8 0] (r.length + 70)) 5)) := fun W => make_room (r.length + 70) (by omega) W
          have HEA : Aside0 (Kd.R (Kd.int .u8) 5 (W3.alloc (.cells (madeCells #[.int .u8 0] (r.length + 70)) 5)).drew W3.heap.size (fun _ => True) (.slice (some ⟨W3.heap.size, 0, none⟩) 0 (r.length + 70)) []) := ⟨Kd.R_drew (room_row _ (by omega) W3 _ (Nat.le_refl _))⟩
          have HCP4 := Aside0.mk (Kd.C_drew (Kd.C_alloc HCP3.out (.cells (madeCells #[.int .u8 0] (r.length + 70)) 5)))
          have HB4 := Aside0.mk (below_drew (below_alloc (Below.refl W3.heap.size W3) (.cells (madeCells #[.int .u8 0] (r.length + 70)) 5)))
          have hy0 := World.new_ne W3 _ y0
          have hwr : IntKind.i64.wrap ((r.length : Int) + 70) = (r.length : Int) + 70 := IntWalk.i64_in _ (by omega)
          go_region_held3 (fun w' => w'.cell? ⟨gx, 0, none⟩ = some (.slice Ap r.length cp)) (go_keep)
            (first
              | (refine Kd.R_append_rows_step (Kd.int .u8) (w0 := W3) W3.heap.size rfl (.tmp 78) (.tmp 80) 22 5 (.int .u8 0) 1 rfl Try.underlying22 info5 rfl (by decide) (by omega) (.slice (some ⟨W3.heap.size, 0, none⟩) 0 (r.length + 70)) [] r Ap r.length cp (fun _ => True) (fun _ => False) rfl rfl HEA.out HCP4.out (fun _ _ h => h) (fun _ hk => hk.elim) (fun _ _ => trivial) HB4.out HB4.out.size (by simp; omega) ?_; intro v4 w4 ho4 hb4 hg4 hat4; have y04 := pw_cell_below hb4 y0; have y14 := pw_cell_below hb4 y1; have hR4 : Kd.R (Kd.int .u8) 5 w4 W3.heap.size (fun _ => True) v4 r := ho4; obtain ⟨Ar, kr, rfl⟩ := Kd.R_slice hR4; have hrk : r.length ≤ kr := (Kd.R_reads' hR4).2.1; have HI4 := Aside0.mk (HI3.out.new hkw.out hb4 0 (own_bytes hR4)); have HCR := Aside0.mk (And.intro (Kd.R_reads' hR4).2.2 (Kd.C_below HCP3.out hb4)); clear ho4 hb4 hg4 hat4 hR4))
          clear hmk hwr hy0 HEA HCP4 HB4 y0 y1 HI3 HCP3
          obtain ⟨cs, hcs⟩ : ∃ cs, chunksR r sz r.length 0 = cs := ⟨_, rfl⟩
          obtain ⟨out, hout⟩ : ∃ out, catS cs = out := ⟨_, rfl⟩
          obtain ⟨blk, hblk⟩ : ∃ blk, blocksR 0 cs = blk := ⟨_, rfl⟩
          have F1 : Aside0 (bpackS r sz = (out, blk, 0)) := ⟨by rw [bpack_fits r sz (by omega) (by omega) hf1, hcs, hout, hblk]⟩
          have hol : out.length ≤ r.length := by rw [← hout, ← hcs]; exact back_len r sz (by omega)
          have F6 : Aside0 (∀ p ∈ cs, 1 ≤ p.length ∧ p.length ≤ 4096 ∧ ∀ x ∈ p, 0 ≤ x ∧ x ≤ 255) := ⟨fun p hp => by
            rw [← hcs] at hp
            have := chunks_mem r sz (by omega) _ _ p hp
            exact ⟨this.1, by omega, fun x hx => HGD.out x (this.2.2 x hx)⟩⟩
          have F7 : Aside0 (catS cs = out ∧ blocksR 0 cs = blk) := ⟨hout, hblk⟩
          have hcl : blk.length = cs.length := by rw [← hblk, blocks_len]
          have hbl : blk.length ≤ 70000 := by
            rw [hcl, ← hcs, chunks_len r sz (by omega) _ _ (by omega) (by omega)]
            exact Nat.le_trans (Nat.div_le_self _ _) (by omega)
          have HCL := Aside0.mk hcl
          clear hcs hout hblk hcl
          go_upto_region 20 with (first
            | (go_at_call 31; (with_reducible refine (bpack_any Ar kr r (sz : Int) w4 HCR.out.1 HGD.out hrk (by omega)).mono ?_); rw [F1.out]; rintro e w5 ⟨vo, vb, rfl, hRo, hRb, hB5⟩; obtain ⟨Ao, ko, rfl⟩ := Kd.R_slice hRo; obtain ⟨Ab, kbl, rfl⟩ := Kd.R_slice hRb; have HI5 := Aside0.mk (HI4.out.new2 hkw.out hB5 1 2 (own_bytes hRo) (own_blocks hRb) (by decide) (by decide)); have HCR5 := Aside0.mk (And.intro (Kd.C_below HCR.out.1 hB5) (Kd.C_below HCR.out.2 hB5)); have y05 := pw_cell_below hB5 y04; have y15 := pw_cell_below hB5 y14; clear hRo hRb hB5)
            | (go_at_call 31; (with_reducible refine (bpack_any Ar kr r (sz : Int) w5 HCR5.out.1 HGD.out hrk (by omega)).mono ?_); rw [F1.out]; rintro e w6 ⟨vo, vb, rfl, hRo, hRb, hB6⟩; obtain ⟨At, kt, rfl⟩ := Kd.R_slice hRo; obtain ⟨Au, ku, rfl⟩ := Kd.R_slice hRb; have HI6 := Aside0.mk (HI5.out.new2 hkw.out hB6 3 4 (own_bytes hRo) (own_blocks hRb) (by decide) (by decide)); have HCR6 := Aside0.mk (And.intro (Kd.C_below HCR5.out.1 hB6) (Kd.C_below HCR5.out.2 hB6)); have y06 := pw_cell_below hB6 y05; clear hRo hRb hB6)
            | (go_at_call 35; (with_reducible refine (bytes_true _ _ _ _ out w6 (C_own (HI6.out.own (k := 1) rfl)).2.2 (C_own (HI6.out.own (k := 3) rfl)).2.2 (by omega)).mono ?_); rintro e w7 ⟨rfl, hd7⟩; have HI7 := Aside0.mk (HI6.out.below hkw.out hd7.below); have HCR7 := Aside0.mk (And.intro (Kd.C_below HCR6.out.1 hd7.below) (Kd.C_below HCR6.out.2 hd7.below)); have y07 := pw_cell_below hd7.below y06; clear hd7)
            | (go_at_call 36; (with_reducible refine (rows_true _ _ _ _ blk w7 (C_blocks (HI7.out.own (k := 2) rfl)).2.2 (C_blocks (HI7.out.own (k := 4) rfl)).2.2 (by omega)).mono ?_); rintro e w8 ⟨rfl, hd8⟩; have HI8 := Aside0.mk (HI7.out.below hkw.out hd8.below); have HCR8 := Aside0.mk (And.intro (Kd.C_below HCR7.out.1 hd8.below) (Kd.C_below HCR7.out.2 hd8.below)); have y08 := pw_cell_below hd8.below y07; clear hd8)
            | (go_at_call 35; (with_reducible refine (bytes_true _ _ _ _ r w8 HCR8.out.1 HCR8.out.2 (by omega)).mono ?_); rintro e w9 ⟨rfl, hd9⟩; have HI9 := Aside0.mk (HI8.out.below hkw.out hd9.below); have HCR9 := Aside0.mk (And.intro (Kd.C_below HCR8.out.1 hd9.below) (Kd.C_below HCR8.out.2 hd9.below)); clear hd9))
          clear HI4 HI5 HI6 HI7 HI8 HCR HCR5 HCR6 HCR7 HCR8 y04 y14 y05 y15 y06 y07 y08
          have hkl : Aside0 (kb ≤ w9.heap.size) := ⟨Nat.le_trans hkw.out HI9.out.bel.size⟩
          have hus : us.length ≤ 1300000 := by omega
          have hws : ws.length ≤ 1300000 := by have := HI9.out.lu; have := HI9.out.lw; omega
          go_upto_region 22 with (first
            | (at_builtin; refine wpList_append_row (w0 := wo) kb rfl (.tmp 123) (.tmp 125) 38 22 (.slice none 0 0) 1 24 rfl Try.underlying38 info22 rfl (by decide) (by decide) (.slice A6 us.length c6) us.length (us.map SlV.v) [.slice At out.length kt] rfl rfl rfl (by simp [Value.oneCell']) HI9.out.lefts.1 HI9.out.bel hkl.out (by omega) ?_; intro v10 w10 hv10 hb10 hg10 _ hat10; obtain ⟨A10, k10, rfl, hI10⟩ := HI9.out.left (k := 3) (u := ⟨At, out.length, kt⟩) rfl (by show out.length ≤ 1000000; omega) hv10 hb10 hg10 hat10; have HI10 := Aside0.mk hI10; have hkl10 : Aside0 (kb ≤ w10.heap.size) := ⟨Nat.le_trans hkw.out hb10.size⟩; clear hv10 hb10 hg10 hat10 hI10)
            | (at_builtin; refine Kd.R_append_rows (Kd.int .u8) (w0 := w10) w10.heap.size rfl (.tmp 128) (.tmp 129) 22 5 (.int .u8 0) 1 rfl Try.underlying22 info5 rfl (by decide) (by omega) (.slice (some ⟨w10.heap.size, 0, none⟩) 0 0) [] out At out.length kt (fun _ => True) (fun _ => False) rfl rfl (empty_row w10 _ (Nat.le_refl _)) (Kd.C_alloc (C_own HI10.out.leftLast).2.2 _) (fun _ _ h => h) (fun _ hk => hk.elim) (fun _ _ => trivial) (below_alloc (Below.refl _ _) _) (by simp) (by simp; omega) ?_; intro v11 w11 ho11 hb11 hg11 hat11; have hR11 : Kd.R (Kd.int .u8) 5 w11 w10.heap.size (fun _ => True) v11 out := ho11; obtain ⟨A11, k11, rfl⟩ := Kd.R_slice hR11; have HI11 := Aside0.mk (HI10.out.new hkw.out hb11 5 (own_bytes hR11)); have hkl11 : Aside0 (kb ≤ w11.heap.size) := ⟨Nat.le_trans hkl10.out hb11.size⟩; clear ho11 hb11 hg11 hat11 hR11)
            | (at_builtin; refine wpList_append_row (w0 := wo) kb rfl (.tmp 127) (.tmp 131) 38 22 (.slice none 0 0) 1 24 rfl Try.underlying38 info22 rfl (by decide) (by decide) (.slice A7 ws.length c7) ws.length (ws.map SlV.v) [.slice A11 out.length k11] rfl rfl rfl (by simp [Value.oneCell']) HI11.out.wants.1 HI11.out.bel hkl11.out (by omega) ?_; intro v12 w12 hv12 hb12 hg12 _ hat12; obtain ⟨A12, k12, rfl, hI12⟩ := HI11.out.want (k := 5) (u := ⟨A11, out.length, k11⟩) rfl hv12 hb12 hg12 hat12; have HI12 := Aside0.mk hI12; clear hv12 hb12 hg12 hat12 hI12))
          obtain ⟨J, hJ⟩ : ∃ J, J = min blk.length 8 := ⟨_, rfl⟩
          have hJ1 : J ≤ blk.length := by omega
          have hJ2 : J ≤ 8 := by omega
          have HJ := Aside0.mk hJ
          clear hJ
          have HC9 := Aside0.mk HCR9.out.2
          have HL0 : Aside0 (∃ T, InT kb T ⟨Ar, r.length, kr⟩ ⟨Ao, out.length, ko⟩ ⟨Ab, blk.length, kbl⟩ r out blk ∧ OI kb kb wo w12 0 ⟨A10, us.length + 1, k10⟩ ⟨A12, ws.length + 1, k12⟩ (us ++ [⟨At, out.length, kt⟩]) (ws ++ [⟨A11, out.length, k11⟩]) (ys ++ [out]) (ys ++ [out]) 0 T (blkP kb gx 42 #[.slice Ap r.length cp, .int .i64 (sz : Int)]) (9 * i + 0) i) := ⟨_, ⟨rfl, rfl, rfl⟩, HI12.out⟩
          have HPW : Aside0 (Kd.C (Kd.int .u8) wo Ap r.length r) := HPO
          clear HI9 HI10 HI11 HI12 hkl hkl10 hkl11 HCR9 HC9
          go_wp2
          go_loopg [6, 7, 17] J (fun q v6 v7 v17 w' => ∃ (j : Nat) (B6 B7 : Option Addr) (d6 d7 : Nat) (us1 ws1 : List SlV) (ys1 : List (List Int)) (T : Nat → Pr), v6 = .slice B6 us1.length d6 ∧ v7 = .slice B7 ws1.length d7 ∧ v17 = .int .i64 j ∧ j + q = J ∧ us1.length ≤ 9 * i + 1 + j ∧ Aside0 (InT kb T ⟨Ar, r.length, kr⟩ ⟨Ao, out.length, ko⟩ ⟨Ab, blk.length, kbl⟩ r out blk ∧ OI kb kb wo w' 0 ⟨B6, us1.length, d6⟩ ⟨B7, ws1.length, d7⟩ us1 ws1 ys1 ys1 0 T (blkP kb gx 42 #[.slice Ap r.length cp, .int .i64 (sz : Int)]) (9 * i + j) i))
          case atStart =>
            obtain ⟨T, hT1, hT2⟩ := HL0.out
            exact ⟨0, A10, A12, k10, k12, us ++ [⟨At, out.length, kt⟩], ws ++ [⟨A11, out.length, k11⟩], ys ++ [out], T, by simp, by simp, rfl, by omega, by simp; omega, ⟨hT1, by simpa using hT2⟩⟩
          case round =>
            clear HL0 husl hus hws
            obtain ⟨j, B6, B7, d6, d7, us1, ws1, ys1, T, rfl, rfl, rfl, hjq, hus1, HI⟩ := hrel
            cases gk with
            | zero =>
              obtain rfl : j = J := by omega
              have hji : i < 140000 := by omega
              have hg : Aside0 (decide (j < blk.length) = false ∨ decide (j < blk.length) = true ∧ decide ((j : Int) < 8) = false) := ⟨by
                have := HJ.out
                by_cases h : j < blk.length
                · right; simp; omega
                · left; simp; omega⟩
              have hbo : Aside0 (Below wo.heap.size wo wr) := ⟨by have := HI.out.2.bel; rw [← HKB.out] at this; exact this⟩
              rcases hg.out with h1 | ⟨h1, h2⟩
              all_goals
                clear hg hJ1
                go_wp2_with (first
                  | (go_at_call 46; (with_reducible refine (HI.out.2.take hkw.out HI.out.1.t1 (by show out.length ≤ 1000000; omega) (by omega)).mono ?_); rintro e w13 ⟨rfl, hI13⟩; have HI13 := Aside0.mk hI13; clear hI13)
                  | (go_at_call 47; (with_reducible refine (HI13.out.list hkw.out (k := 2) (u := ⟨Ab, blk.length, kbl⟩) (xs := blk.flatMap enc58) (by rw [upT_ne _ _ (by decide)]; exact HI.out.1.t2) (by show blk.length ≤ 1000000; omega) (by omega)).mono ?_); rintro e w14 ⟨rfl, hI14⟩; have HI14 := Aside0.mk hI14; obtain ⟨z0, z1⟩ := cells2 HI14.out.blk; have hb14 : Below wo.heap.size wo w14 := (by have := HI14.out.bel; rw [← HKB.out] at this; exact this); have HB14 := Aside0.mk hb14; clear hI14 hb14)
                  | (go_at_call 35; (with_reducible refine (bytes_true _ _ _ _ r w14 (C_own (HI14.out.own (k := 0) (u := ⟨Ar, r.length, kr⟩) (by rw [upT_ne _ _ (by decide), upT_ne _ _ (by decide)]; exact HI.out.1.t0))).2.2 (Kd.C_below HPW.out HB14.out) (by omega)).mono ?_); rintro e w15 ⟨rfl, hd15⟩; have HI15 := Aside0.mk (HI14.out.below hkw.out hd15.below); clear hd15)
                  | (go_at_call 48; (with_reducible refine (HI15.out.still hkw.out (by omega) (by omega) (by omega)).mono ?_); rintro e w16 ⟨rfl, hB16⟩; have HI16 := Aside0.mk (HI15.out.below hkw.out hB16); clear hB16))
                go_roundg k
                case measure => omega
                case rel => exact ⟨i + 1, B6, B7, d6, d7, us1, ws1, ys1, rfl, rfl, by go_num, by omega, by omega, ⟨HI16.out.drop.mono (by omega) (by omega)⟩⟩
            | succ q =>
              have hj : j < J := by omega
              have hjb : j < blk.length := by omega
              have hjb2 : (j : Int) < (blk.length : Int) := by omega
              have hj8 : (j : Int) < 8 := by omega
              have hji : i < 140000 := by omega
              have hjc : j < cs.length := by rw [← HCL.out]; omega
              obtain ⟨done, p, t, hsp, hdl⟩ : ∃ done p t, cs = done ++ p :: t ∧ done.length = j := ⟨cs.take j, cs[j], cs.drop (j + 1), by rw [← List.drop_eq_getElem_cons hjc, List.take_append_drop], by simp; omega⟩
              have hpm := F6.out p (by rw [hsp]; simp)
              obtain ⟨x, hx⟩ : ∃ x, pieceS p = x := ⟨_, rfl⟩
              have hb : rd_T58 blk (j : Int) = blockS (catS done).length p := by rw [← F7.out.2, hsp, ← hdl]; exact blocks_get done p t
              have hmid : (out.take ((catS done).length + x.length)).drop (catS done).length = x := by rw [← F7.out.1, hsp, ← hx]; exact cat_mid done p t
              have hopen := open_piece (catS done).length hpm.1 hpm.2.1
              have hat : (catS done).length + x.length ≤ out.length := by
                rw [← F7.out.1, hsp, cat_append, catS, List.length_append, List.length_append, hx]; omega
              have hx1 : 1 ≤ x.length := by rw [← hx]; exact pieceS_pos hpm.1 hpm.2.1
              have hx2 : x.length ≤ 4096 := by rw [← hx]; exact Nat.le_trans (pieceS_length p) hpm.2.1
              have hxb : ∀ z ∈ x, 0 ≤ z ∧ z ≤ 255 := by rw [← hx]; exact piece_bytes hpm.2.2
              obtain ⟨a, ha⟩ : ∃ a, (catS done).length = a := ⟨_, rfl⟩
              obtain ⟨ns, hns⟩ : ∃ ns, sumS x = ns := ⟨_, rfl⟩
              have hbs : blockS a p = ⟨a, x.length, p.length, ns⟩ := by rw [blockS, hx, hns]
              have hpl1 := hpm.1
              have hpl2 := hpm.2.1
              rw [ha] at hb hmid hopen hat
              rw [hbs] at hb
              rw [hbs, hx] at hopen
              have hO1 := C_own (HI.out.2.own HI.out.1.t1)
              have hO2 := C_blocks (HI.out.2.own HI.out.1.t2)
              have hko : out.length ≤ ko := hO1.2.1
              obtain ⟨go, cgo, eo, -⟩ := own_cell (HI.out.2.own HI.out.1.t1) (show 0 < out.length by omega)
              obtain ⟨gb, cgb, eb, -⟩ := own_cell (HI.out.2.own HI.out.1.t2) (show 0 < blk.length by omega)
              injection eo with eo _ eo2
              injection eb with eb _ eb2
              simp only at eo eb eo2 eb2
              subst eo eb eo2 eb2
              have hcb := cellsB hO2.2.2 j hjb
              rw [hb] at hcb
              obtain ⟨b0, b1, b2, b3⟩ := hcb
              simp only [] at b0 b1 b2 b3
              have HOP := Aside0.mk hopen
              have HXB := Aside0.mk hxb
              have hCat : Aside0 (∀ {W : World} {vL vW : SlV} {us' ws' : List SlV} {ys' zs' : List (List Int)} {T' : Nat → Pr} {B2 : Pr} {nr nl : Nat}, OI kb kb wo W 0 vL vW us' ws' ys' zs' 0 T' B2 nr nl → T' 1 = rowP kb 5 1 ⟨some ⟨go, 0, none⟩, out.length, ko⟩ (nums .u8 out) → Kd.C (Kd.int .u8) W (some ⟨go, a, none⟩) x.length x) := ⟨fun h e => C_range (C_own (h.own e)).2.2 hko hx1 hat hmid⟩
              have h1 : (0 : Int) ≤ (a : Int) := by omega
              have h2 : (a : Int) ≤ (a : Int) + (x.length : Int) := by omega
              have h3 : (a : Int) + (x.length : Int) ≤ (ko : Int) := by omega
              have h5 : decide ((out.length : Int) < (a : Int) + (x.length : Int)) = false := by simp; omega
              have h6 : decide ((a : Int) + (x.length : Int) < (a : Int)) = false := by simp; omega
              have h7 : (a : Int) + (x.length : Int) ≤ 70000 := by omega
              have h9 : ((a : Int) + (x.length : Int)).toNat - a = x.length := by omega
              have h10 : ¬ ko = a := by omega
              have hw1 : IntKind.i64.wrap ((a : Int) + (x.length : Int) - (a : Int)) = (x.length : Int) := by rw [IntWalk.i64_in _ (by omega)]; omega
              have hw2 : IntKind.i64.wrap ((x.length : Int) + 70) = (x.length : Int) + 70 := IntWalk.i64_in _ (by omega)
              have hw3 : IntKind.i64.wrap (x.length : Int) = (x.length : Int) := IntWalk.i64_in _ (by omega)
              have hbw : kb ≤ wr.heap.size := Nat.le_trans hkw.out HI.out.2.bel.size
              have HBW := Aside0.mk hbw
              have hmk : ∀ W, (Instr.makeSlice 22 (.int .i64 0) (.int .i64 ((x.length : Int) + 70))).run Try.prog W = .ok (.slice (some ⟨W.heap.size, 0, none⟩) 0 (x.length + 70)) (W.alloc (.cells (madeCells #[.int .u8 0] (x.length + 70)) 5)) := fun W => make_room (x.length + 70) (by omega) W
              have HEA : Aside0 (Kd.R (Kd.int .u8) 5 (wr.alloc (.cells (madeCells #[.int .u8 0] (x.length + 70)) 5)).drew wr.heap.size (fun _ => True) (.slice (some ⟨wr.heap.size, 0, none⟩) 0 (x.length + 70)) []) := ⟨Kd.R_drew (room_row _ (by omega) wr _ (Nat.le_refl _))⟩
              have HCX := Aside0.mk (Kd.C_drew (Kd.C_alloc (hCat.out HI.out.2 HI.out.1.t1) (.cells (madeCells #[.int .u8 0] (x.length + 70)) 5)))
              have HB4 := Aside0.mk (below_drew (below_alloc (Below.refl wr.heap.size wr) (.cells (madeCells #[.int .u8 0] (x.length + 70)) 5)))
              clear hx hb hmid hopen hxb hns hbs hO1 hO2 ha hsp hdl hpm hat hjc hbw
              go_upto_region 29 with (fail)
              go_region_held3 (fun _ => True) (trivial)
                (first
                  | (refine Kd.R_append_rows_step (Kd.int .u8) (w0 := wr) wr.heap.size rfl (.tmp 172) (.tmp 176) 22 5 (.int .u8 0) 1 rfl Try.underlying22 info5 rfl (by decide) (by omega) (.slice (some ⟨wr.heap.size, 0, none⟩) 0 (x.length + 70)) [] x (some ⟨go, a, none⟩) x.length (ko - a) (fun _ => True) (fun _ => False) rfl rfl HEA.out HCX.out (fun _ _ h => h) (fun _ hk => hk.elim) (fun _ _ => trivial) HB4.out HB4.out.size (by simp; omega) ?_; intro v14 w14 ho14 hb14 hg14 hat14; have hR14 : Kd.R (Kd.int .u8) 5 w14 wr.heap.size (fun _ => True) v14 x := ho14; obtain ⟨Ax, kx, rfl⟩ := Kd.R_slice hR14; have hxk : x.length ≤ kx := (Kd.R_reads' hR14).2.1; have HI14 := Aside0.mk (HI.out.2.new hkw.out hb14 3 (own_bytes hR14)); have c0' := pw_cell_below hb14 b0; have c1' := pw_cell_below hb14 b1; have c2' := pw_cell_below hb14 b2; have c3' := pw_cell_below hb14 b3; clear ho14 hb14 hg14 hat14 hR14))
              clear b0 b1 b2 b3 h5 h6 h7 hw1 hw2 hw3 hmk HEA HCX HB4
              have hus2 : us1.length ≤ 1300000 := by omega
              have hws2 : ws1.length ≤ 1300000 := by have := HI.out.2.lu; have := HI.out.2.lw; omega
              go_wp2_with (first
                | (go_at_call 39; have hcx := (C_own (HI14.out.own (k := 3) (u := ⟨Ax, x.length, kx⟩) rfl)).2.2; (with_reducible refine (bopen_any Ax kx x a x.length p.length ns w14 hcx HXB.out (by omega)).mono ?_); rw [HOP.out]; rintro e w15 ⟨v15, rfl, hR15, hB15⟩; replace hR15 : Kd.R (Kd.int .u8) 5 w15 w14.heap.size (fun _ => True) v15 p := hR15; obtain ⟨Ac, kc, rfl⟩ := Kd.R_slice hR15; have HI15 := Aside0.mk (HI14.out.new hkw.out hB15 4 (own_bytes hR15)); have e0 := pw_cell_below hB15 c0'; have e1 := pw_cell_below hB15 c1'; have e2 := pw_cell_below hB15 c2'; have e3 := pw_cell_below hB15 c3'; clear hR15 hB15 hcx)
                | (go_at_call 39; have hcx := (C_own (HI15.out.own (k := 3) (u := ⟨Ax, x.length, kx⟩) rfl)).2.2; (with_reducible refine (bopen_any Ax kx x a x.length p.length ns w15 hcx HXB.out (by omega)).mono ?_); rw [HOP.out]; rintro e w16 ⟨v16, rfl, hR16, hB16⟩; replace hR16 : Kd.R (Kd.int .u8) 5 w16 w15.heap.size (fun _ => True) v16 p := hR16; obtain ⟨Ad, kd, rfl⟩ := Kd.R_slice hR16; have HI16 := Aside0.mk (HI15.out.new hkw.out hB16 5 (own_bytes hR16)); clear hR16 hB16 hcx)
                | (go_at_call 35; have hcx := (C_own (HI16.out.own (k := 4) (u := ⟨Ac, p.length, kc⟩) rfl)).2.2; have hcy := (C_own (HI16.out.own (k := 5) (u := ⟨Ad, p.length, kd⟩) rfl)).2.2; (with_reducible refine (bytes_true _ _ _ _ p w16 hcx hcy (by omega)).mono ?_); rintro e w17 ⟨rfl, hd17⟩; have HI17 := Aside0.mk (HI16.out.below hkw.out hd17.below); clear hd17 hcx hcy)
                | (go_at_call 35; have hcx := (C_own (HI17.out.own (k := 3) (u := ⟨Ax, x.length, kx⟩) rfl)).2.2; have hcy := hCat.out HI17.out HI.out.1.t1; (with_reducible refine (bytes_true _ _ _ _ x w17 hcx hcy (by omega)).mono ?_); rintro e w18 ⟨rfl, hd18⟩; have HI18 := Aside0.mk (HI17.out.below hkw.out hd18.below); have hkl18 : Aside0 (kb ≤ w18.heap.size) := ⟨Nat.le_trans hkw.out HI18.out.bel.size⟩; clear hd18 hcx hcy)
                | (at_builtin; refine wpList_append_row (w0 := wo) kb rfl (.tmp 217) (.tmp 219) 38 22 (.slice none 0 0) 1 24 rfl Try.underlying38 info22 rfl (by decide) (by decide) (.slice B6 us1.length d6) us1.length (us1.map SlV.v) [.slice Ad p.length kd] rfl rfl rfl (by simp [Value.oneCell']) HI18.out.lefts.1 HI18.out.bel hkl18.out (by omega) ?_; intro v19 w19 hv19 hb19 hg19 _ hat19; obtain ⟨A19, k19, rfl, hI19⟩ := HI18.out.left (k := 5) (u := ⟨Ad, p.length, kd⟩) rfl (by show p.length ≤ 1000000; omega) hv19 hb19 hg19 hat19; have HI19 := Aside0.mk hI19; have hkl19 : Aside0 (kb ≤ w19.heap.size) := ⟨Nat.le_trans hkw.out hb19.size⟩; clear hv19 hb19 hg19 hat19 hI19)
                | (at_builtin; refine Kd.R_append_rows (Kd.int .u8) (w0 := w19) w19.heap.size rfl (.tmp 222) (.tmp 223) 22 5 (.int .u8 0) 1 rfl Try.underlying22 info5 rfl (by decide) (by omega) (.slice (some ⟨w19.heap.size, 0, none⟩) 0 0) [] p Ad p.length kd (fun _ => True) (fun _ => False) rfl rfl (empty_row w19 _ (Nat.le_refl _)) (Kd.C_alloc (C_own HI19.out.leftLast).2.2 _) (fun _ _ h => h) (fun _ hk => hk.elim) (fun _ _ => trivial) (below_alloc (Below.refl _ _) _) (by simp) (by simp; omega) ?_; intro v20 w20 ho20 hb20 hg20 hat20; have hR20 : Kd.R (Kd.int .u8) 5 w20 w19.heap.size (fun _ => True) v20 p := ho20; obtain ⟨A20, k20, rfl⟩ := Kd.R_slice hR20; have HI20 := Aside0.mk (HI19.out.new hkw.out hb20 6 (own_bytes hR20)); have hkl20 : Aside0 (kb ≤ w20.heap.size) := ⟨Nat.le_trans hkl19.out hb20.size⟩; clear ho20 hb20 hg20 hat20 hR20)
                | (at_builtin; refine wpList_append_row (w0 := wo) kb rfl (.tmp 221) (.tmp 225) 38 22 (.slice none 0 0) 1 24 rfl Try.underlying38 info22 rfl (by decide) (by decide) (.slice B7 ws1.length d7) ws1.length (ws1.map SlV.v) [.slice A20 p.length k20] rfl rfl rfl (by simp [Value.oneCell']) HI20.out.wants.1 HI20.out.bel hkl20.out (by omega) ?_; intro v21 w21 hv21 hb21 hg21 _ hat21; obtain ⟨A21, k21, rfl, hI21⟩ := HI20.out.want (k := 6) (u := ⟨A20, p.length, k20⟩) rfl hv21 hb21 hg21 hat21; have HI21 := Aside0.mk hI21; clear hv21 hb21 hg21 hat21 hI21)
                | (go_at_call 46; have hT : Calls Try.prog 46 _ w21 _ := HI21.out.take hkw.out (k := 4) (u := ⟨Ac, p.length, kc⟩) (xs := nums .u8 p) rfl (by show p.length ≤ 1000000; omega) (by omega); (with_reducible refine hT.mono ?_); rintro e w22 ⟨rfl, hI22⟩; have HI22 := Aside0.mk hI22; clear hI22 hT)
                | (go_at_call 35; have hcx := (C_own (HI22.out.own (k := 3) (u := ⟨Ax, x.length, kx⟩) rfl)).2.2; have hcy := hCat.out HI22.out HI.out.1.t1; (with_reducible refine (bytes_true _ _ _ _ x w22 hcx hcy (by omega)).mono ?_); rintro e w23 ⟨rfl, hd23⟩; have HI23 := Aside0.mk (HI22.out.below hkw.out hd23.below); clear hd23 hcx hcy))
              have HF : Aside0 (∃ T', InT kb T' ⟨Ar, r.length, kr⟩ ⟨some ⟨go, 0, none⟩, out.length, ko⟩ ⟨some ⟨gb, 0, none⟩, blk.length, kbl⟩ r out blk ∧ OI kb kb wo w23 0 ⟨A19, (us1 ++ [(⟨Ad, p.length, kd⟩ : SlV)]).length, k19⟩ ⟨A21, (ws1 ++ [(⟨A20, p.length, k20⟩ : SlV)]).length, k21⟩ (us1 ++ [⟨Ad, p.length, kd⟩]) (ws1 ++ [⟨A20, p.length, k20⟩]) (ys1 ++ [p]) (ys1 ++ [p]) 0 T' (blkP kb gx 42 #[.slice Ap r.length cp, .int .i64 (sz : Int)]) (9 * i + (j + 1)) i) := ⟨by
                rw [show (us1 ++ [(⟨Ad, p.length, kd⟩ : SlV)]).length = us1.length + 1 from by simp, show (ws1 ++ [(⟨A20, p.length, k20⟩ : SlV)]).length = ws1.length + 1 from by simp]
                refine ⟨_, ?_, HI23.out⟩
                exact ⟨HI.out.1.t0, HI.out.1.t1, HI.out.1.t2⟩⟩
              obtain ⟨T', hT'⟩ := HF.out
              have HT := Aside0.mk hT'
              clear hT' HF HI14 HI15 HI16 HI17 HI18 HI19 HI20 HI21 HI22 HI23
              go_roundg q
              case measure => omega
              case rel => exact ⟨j + 1, A19, A21, k19, k21, us1 ++ [⟨Ad, p.length, kd⟩], ws1 ++ [⟨A20, p.length, k20⟩], ys1 ++ [p], T', by rw [List.length_append]; rfl, by rw [List.length_append]; rfl, by go_num, by omega, by rw [List.length_append, List.length_singleton]; omega, HT⟩
    | succ k =>
      have hi : i < l0.length := by omega
      have hi1 : (i : Int) < (l0.length : Int) := by omega
      have hi0 : (0 : Int) ≤ (i : Int) := by omega
      obtain ⟨ad, Ap, cp, e, p0, p1, -, -⟩ := at_Ask (Kd.C_below HR0.out HD.out.below) (i : Int) (by omega) hi1
      cases e
      simp only [Int.toNat_natCast] at p0 p1
      have hmem : rd_Ask l0 (i : Int) ∈ l0 := by
        rw [rd_Ask, Int.toNat_natCast, List.getD_eq_getElem?_getD, List.getElem?_eq_getElem hi]; exact List.getElem_mem hi
      have hlen := (HG.out _ hmem).1.1
      obtain ⟨⟨r, sz⟩, hx⟩ : ∃ x, rd_Ask l0 (i : Int) = x := ⟨_, rfl⟩
      rw [hx] at p0 p1 hlen
      simp only [] at p0 p1 hlen
      have HX := Aside0.mk hx
      clear hx hmem
      obtain ⟨m, hm⟩ : ∃ m, r.length = m := ⟨_, rfl⟩
      rw [hm] at p0 hlen
      have HM := Aside0.mk hm
      clear hm
      by_cases hbig : n + m + 1 > 70000
      · have hb1 : (70000 : Int) < (n : Int) + (m : Int) + 1 := by omega
        have hb2 : decide ((70000 : Int) < (n : Int) + (m : Int) + 1) = true := by simp; omega
        go_wp2
        go_quiet (fail)
        go_wp2
        go_ret
        exact ⟨rfl, pw_below_drewN HD.out.below _⟩
      · have hb1 : decide ((70000 : Int) < (n : Int) + (m : Int) + 1) = false := by simp; omega
        by_cases hfit : m ≤ 65536 ∧ 16 ≤ sz ∧ sz ≤ 4096
        · obtain ⟨f1, f2, f3⟩ := hfit
          go_wp2
          go_quiet ((go_at_call 44; exact Calls.quiet_of_same (fits_quiet _ true (fits_true _ _ _ _ _ f1 f2 f3))))
          go_wp2
          go_roundg k
          case measure => omega
          case rel => exact ⟨n + m + 1, i + 1, by go_num, by go_num, by omega, by omega, by omega, ⟨fun j hj => by
            by_cases hji : j < i
            · exact HL.out j hji
            · have : j = i := by omega
              subst this
              rw [HX.out]
              exact ⟨by show r.length ≤ 65536; rw [HM.out]; omega, f2, f3⟩⟩, ⟨HD.out.step _⟩⟩
        · go_wp2
          go_quiet ((go_at_call 44; exact Calls.quiet_of_same (fits_quiet _ false (fits_false _ _ _ _ _ hfit))))
          go_wp2
          go_ret
          exact ⟨rfl, pw_below_drewN HD.out.below _⟩
end Go.Proofs.Ytoefligelajfkaa.Own
