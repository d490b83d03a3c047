import Derived.Test.YtoefligelajfkaaApart2
import Derived.BigQuiet
namespace Go.Proofs.Ytoefligelajfkaa.Press
open Go.RowKit Go.Proofs.YtoefligelajfkaaW.PrintWords Go.Proofs.YtoefligelajfkaaW.PrintLast Go.Proofs.YtoefligelajfkaaW.PrintMore

set_option maxHeartbeats 4000000 in
theorem apart_any (b : Nat) (A0 : Option Addr) (c0 : Nat) (all : List SlV) (ys : List (List Int)) (w0 w : World) (HO : Outer w b (.slice A0 all.length c0) all) (HF : Fam w b all ys) (HB : Below b w0 w) (hb : b ≤ w0.heap.size) (hall : all.length ≤ 72) (hy : ∀ u ∈ all, u.n ≤ 1000000) :
    Calls Try.prog 28 #[.slice A0 all.length c0] w fun e w' => e = .returned (.bool true) ∧ Below b w0 w' := by
  have H1 : Aside0 (L1 b w0 w (.slice A0 all.length c0) all 0 0) := ⟨ys, HF, fun j y hj => by omega, fun y hy t z ht => by omega, HO, HB⟩
  clear HO HF HB
  go_enter Try.func28, Try.ntmps28
  go_wp2
  go_loopg [4, 5] all.length (fun k v4 v5 w' => ∃ i : Nat, v4 = .int .i64 i ∧ i + k = all.length ∧ Aside0 (L1 b w0 w' (.slice A0 all.length c0) all i 0))
  case atStart => exact ⟨0, rfl, by omega, H1⟩
  case round =>
    clear H1
    obtain ⟨i, rfl, hik, HA⟩ := hrel
    cases gk with
    | zero =>
      have hi : i = all.length := by omega
      subst hi
      obtain ⟨b2, hb2⟩ : ∃ b2, b2 = wr.heap.size := ⟨_, rfl⟩
      have H2 : Aside0 (b2 ≤ wr.heap.size ∧ L2 b b2 w0 wr (.slice A0 all.length c0) all 0 (.slice none 0 0)) := ⟨by omega, by rw [hb2]; exact HA.out.start2⟩
      clear hb2
      clear HA
      go_wp2
      go_loopg [3, 6, 7, 8] all.length (fun k v3 v6 v7 v8 w' => ∃ i : Nat, v6 = .int .i64 i ∧ i + k = all.length ∧ Aside0 (b2 ≤ w'.heap.size ∧ L2 b b2 w0 w' (.slice A0 all.length c0) all i v3))
      case atStart => exact ⟨0, rfl, by omega, H2⟩
      case round =>
        clear H2
        obtain ⟨i, rfl, hik, HA⟩ := hrel
        obtain ⟨A3, n3, c3, rfl⟩ := HA.out.2.slice3
        cases gk with
        | zero =>
          have hi : i = all.length := by omega
          subst hi
          have h3 := HA.out.2.len
          subst h3
          go_wp2
          go_loopg [9, 10] all.length (fun k v9 v10 w' => ∃ i : Nat, v9 = .int .i64 i ∧ i + k = all.length ∧ w' = wr)
          case atStart => exact ⟨0, rfl, by omega, rfl⟩
          case round =>
            obtain ⟨i, rfl, hik, rfl⟩ := hrel
            cases gk with
            | zero =>
              have hi : i = all.length := by omega
              subst hi
              go_wp2
              go_ret
              obtain ⟨_, _, _, _, _, _, _, _, _, _, h, _⟩ := HA.out.2
              exact ⟨rfl, h⟩
            | succ k =>
              have hi : i < all.length := by omega
              have hi2 : (i : Int) < (all.length : Int) := by omega
              obtain ⟨vA, vn, vc, uA, un, uc, ⟨g0, rfl, hv0⟩, ⟨g3, rfl, hv3⟩, hun, hvn, hcu, hcv⟩ := HA.out.2.row i hi
              have HCU := Aside0.mk hcu
              have HCV := Aside0.mk hcv
              clear hcu hcv
              have hw8 : IntKind.u8.wrap ((i : Int) + 1) = (i : Int) + 1 := IntWalk.u8_in _ (by omega)
              go_wp2
              go_loopg [10] un (fun q v10 w' => ∃ t : Nat, v10 = .int .i64 t ∧ t + q = un ∧ w' = wr)
              case atStart => exact ⟨0, rfl, by omega, rfl⟩
              case round =>
                obtain ⟨t, rfl, htq, rfl⟩ := hrel
                cases gk with
                | zero =>
                  have ht : t = un := by omega
                  subst ht
                  go_wp2
                  go_roundg k
                  case measure => omega
                  case rel => exact ⟨i + 1, by go_num, by omega, rfl⟩
                | succ q =>
                  have ht : t < un := by omega
                  have ht2 : (t : Int) < (un : Int) := by omega
                  obtain ⟨g, rfl, hx⟩ := HCU.out t ht
                  by_cases htv : t < vn
                  · have htv2 : (t : Int) < (vn : Int) := by omega
                    obtain ⟨gv, rfl, hxv⟩ := HCV.out t htv
                    go_wp2
                    go_roundg q
                    case measure => omega
                    case rel => exact ⟨t + 1, by go_num, by omega, rfl⟩
                  · have htv2 : (vn : Int) ≤ (t : Int) := by omega
                    have htv3 : decide (t < vn) = false := by simp; omega
                    clear htv
                    go_wp2
                    go_roundg q
                    case measure => omega
                    case rel => exact ⟨t + 1, by go_num, by omega, rfl⟩
        | succ k =>
          have hi : i < all.length := by omega
          have hi2 : (i : Int) < (all.length : Int) := by omega
          obtain ⟨⟨uA, un, uc⟩, hu⟩ : ∃ u, all[i]? = some u := ⟨_, List.getElem?_eq_getElem hi⟩
          have hun : un ≤ 1000000 := hy _ (List.mem_of_getElem? hu)
          have hou : ∃ g, A0 = some ⟨g, 0, none⟩ ∧ wr.cell? ⟨g, i, none⟩ = some (.slice uA un uc) := by
            obtain ⟨_, _, _, _, _, _, h, _⟩ := HA.out.2
            exact outer_at h i hu
          obtain ⟨g0, rfl, hc⟩ := hou
          obtain ⟨z, hz⟩ := HA.out.2.enter hu (m := 1000000) hun
          have HZ := Aside0.mk (And.intro HA.out.1 hz)
          have hw8 : IntKind.u8.wrap ((i : Int) + 1) = (i : Int) + 1 := IntWalk.u8_in _ (by omega)
          clear hz hu
          go_wp2
          clear hc
          go_loopg [7, 8] 24 (fun q v7 v8 w' => ∃ (t : Nat) (A : Option Addr) (n c : Nat) (z : List Int), v7 = .slice A n c ∧ v8 = .int .i64 t ∧ t + q = 24 ∧ Aside0 (b2 ≤ w'.heap.size ∧ L2i b b2 w0 w' (.slice (some ⟨g0, 0, none⟩) all.length c0) all i (.slice A3 n3 c3) ⟨A, n, c⟩ (1000000 + t) z))
          case atStart => exact ⟨0, uA, un, uc, z, rfl, rfl, by omega, HZ⟩
          case round =>
            clear HZ HA
            obtain ⟨t, A, n, c, z, rfl, rfl, htq, HA⟩ := hrel
            cases gk with
            | zero =>
              have ht : t = 24 := by omega
              subst ht
              obtain ⟨ts, hts, hO, hBl, hnext⟩ := HA.out.2.next HA.out.1
              have HN := Aside0.mk (And.intro HA.out.1 hnext)
              have HOB := Aside0.mk (And.intro hO hBl)
              clear hnext hO hBl HA
              go_wp2_with (at_builtin; refine Kd.R_append skd (w0 := w0) b rfl (.tmp 55) (.tmp 57) 38 22 (.slice none 0 0) 24 rfl Try.underlying38 info22 rfl (by decide) (by omega) (.slice A3 n3 c3) ts ⟨A, n, c⟩ [.slice A n c] (fun _ => True) (fun _ => False) rfl rfl rfl (fun _ hk => hk.elim) (fun _ _ => trivial) HOB.out.1 HOB.out.2 (Nat.le_trans hb HOB.out.2.size) (by omega) ?_; intro v1 w2 hv1 hb1 hg1 hat1)
              go_roundg k
              case measure => omega
              case rel => exact ⟨i + 1, by go_num, by omega, ⟨Nat.le_trans HN.out.1 hg1.size, HN.out.2 v1 w2 hv1 hb1 hg1 hat1⟩⟩
            | succ q =>
              have ht2 : (t : Int) < 24 := by omega
              have hown := HA.out.2.own
              have hBl : Below b w0 wr := by obtain ⟨_, _, _, _, _, _, _, _, _, _, h, _⟩ := HA.out.2; exact h
              have hnb : n ≤ 1000000 + t := by obtain ⟨_, _, _, _, _, _, _, _, _, _, _, _, _, h, _⟩ := HA.out.2; exact h
              have hzn : n = z.length := hown.2
              subst hzn
              have HOB := Aside0.mk (And.intro hown.1 hBl)
              clear hown hBl
              go_wp2_with (at_builtin; refine append_split (w0 := w0) b rfl (.tmp 49) (.tmp 53) rfl (.slice A z.length c) z ((i : Int) + 1) rfl rfl HOB.out.1 HOB.out.2 (Nat.le_trans hb HOB.out.2.size) (by omega) ?_; intro v1 w2 hv1 hb1 hg1 ho1 hat1)
              obtain ⟨A1, n1, c1, rfl, hA1⟩ := HA.out.2.app hv1 hb1 hg1 ho1 hat1
              have HA1 := Aside0.mk (And.intro (Nat.le_trans HA.out.1 hg1.size) hA1)
              clear hA1 hv1 hb1 hg1 ho1 hat1
              go_roundg q
              case measure => omega
              case rel => exact ⟨t + 1, A1, n1, c1, _, rfl, by go_num, by omega, HA1⟩
    | succ k =>
      have hi : i < all.length := by omega
      have hi2 : (i : Int) < (all.length : Int) := by omega
      obtain ⟨⟨uA, un, uc⟩, hu⟩ : ∃ u, all[i]? = some u := ⟨_, List.getElem?_eq_getElem hi⟩
      have hun : un ≤ 1000000 := hy _ (List.mem_of_getElem? hu)
      have HU := Aside0.mk hu
      clear hu
      go_wp2
      go_loopg [5] un (fun q v5 w' => ∃ t : Nat, v5 = .int .i64 t ∧ t + q = un ∧ Aside0 (L1 b w0 w' (.slice A0 all.length c0) all i t))
      case atStart => exact ⟨0, rfl, by omega, HA⟩
      case round =>
        clear HA
        obtain ⟨t, rfl, htq, HA⟩ := hrel
        have hou : ∃ g, A0 = some ⟨g, 0, none⟩ ∧ wr.cell? ⟨g, i, none⟩ = some (.slice uA un uc) := by
          obtain ⟨_, _, _, _, h, _⟩ := HA.out
          exact outer_at h i HU.out
        obtain ⟨g0, rfl, hc⟩ := hou
        cases gk with
        | zero =>
          have ht : t = un := by omega
          subst ht
          go_wp2
          go_roundg k
          case measure => omega
          case rel => exact ⟨i + 1, by go_num, by omega, ⟨HA.out.next HU.out rfl⟩⟩
        | succ q =>
          have ht : t < un := by omega
          have ht2 : (t : Int) < (un : Int) := by omega
          obtain ⟨g, x, rfl, hx, hf⟩ := HA.out.cell HU.out ht
          have hw8 : IntKind.u8.wrap ((i : Int) + 1) = (i : Int) + 1 := IntWalk.u8_in _ (by omega)
          go_wp2
          go_roundg q
          case measure => omega
          case rel => exact ⟨t + 1, by go_num, by omega, ⟨HA.out.put HU.out ht⟩⟩
end Go.Proofs.Ytoefligelajfkaa.Press
