import Derived.Test.YtoefligelajfkaaClW4
import Derived.Test.YtoefligelajfkaaClW3
import Derived.BigQuiet
import Derived.Test.YtoefligelajfkaaPPressSpoiltx0
import Derived.Test.YtoefligelajfkaaClW1
import Derived.Test.YtoefligelajfkaaClW2
import Derived.IntWalk
import Derived.Test.YtoefligelajfkaaPBlockOpensx0
import Derived.Test.YtoefligelajfkaaPBlockOpensx1
namespace Go.Proofs.Ytoefligelajfkaa.Block
open Go.RowKit Go.Proofs.YtoefligelajfkaaW.PrintWords Go.Proofs.YtoefligelajfkaaW.PrintLast Go.Proofs.YtoefligelajfkaaW.PrintMore Go.Proofs.Ytoefligelajfkaa.Press
open Go.Proofs.Ytoefligelajfkaa.PBlockOpens (S58 k58 z58 k58_open k58_mk k58_mkM k58_openM rd_T58 at_T58)

set_option maxHeartbeats 1000000 in
theorem bytes_true (A0 : Option Addr) (c0 : Nat) (A1 : Option Addr) (c1 : Nat) (l : List Int) (w : World) (h0 : Kd.C (Kd.int .u8) w A0 l.length l) (h1 : Kd.C (Kd.int .u8) w A1 l.length l) (hl : l.length ≤ 140737488355328) :
    Calls Try.prog 35 #[.slice A0 l.length c0, .slice A1 l.length c1] w fun e w' => e = .returned (.bool true) ∧ Drawn0 w w' := by
  have H0 := Aside0.mk h0
  have H1 := Aside0.mk h1
  clear h0 h1
  go_enter Try.func35, Try.ntmps35
  go_wp2
  go_loopg [5] l.length (fun k v5 w' => ∃ i : Nat, v5 = .int .i64 i ∧ i + k = l.length ∧ Aside0 (Drawn0 w w'))
  case atStart => exact ⟨0, rfl, by omega, ⟨Drawn0.refl _⟩⟩
  case round =>
    obtain ⟨i, rfl, hik, HD⟩ := hrel
    cases gk with
    | zero =>
      have hi : i = l.length := by omega
      subst hi
      go_wp2
      go_ret
      exact ⟨rfl, HD.out⟩
    | succ k =>
      have hi : i < l.length := by omega
      have hi1 : (i : Int) < (l.length : Int) := by omega
      obtain ⟨ad, e0, hx⟩ := Kd.at_int (Kd.C_below H0.out HD.out.below) (i : Int) (by omega) (by omega)
      cases e0
      obtain ⟨ad1, e1, hy⟩ := Kd.at_int (Kd.C_below H1.out HD.out.below) (i : Int) (by omega) (by omega)
      cases e1
      simp only [Int.toNat_natCast] at hx hy
      generalize rd l (i : Int) = x at hx hy
      go_wp2
      go_quiet (fail)
      go_wp2
      go_roundg k
      case measure => omega
      case rel => exact ⟨i + 1, by go_num, by omega, ⟨HD.out.step _⟩⟩

theorem fits_true (A0 : Option Addr) (c0 n : Nat) (size : Int) (w : World) (h0 : n ≤ 65536) (h1 : 16 ≤ size) (h2 : size ≤ 4096) :
    Calls Try.prog 44 #[.slice A0 n c0, .int .i64 size] w fun e w' => e = .returned (.bool true) ∧ w = w' := by
  have g0 : (n : Int) ≤ 65536 := by omega
  go_enter Try.func44, Try.ntmps44
  go_wp2
  go_ret
  exact ⟨rfl, rfl⟩
theorem fits_false (A0 : Option Addr) (c0 n : Nat) (size : Int) (w : World) (h : ¬ (n ≤ 65536 ∧ 16 ≤ size ∧ size ≤ 4096)) :
    Calls Try.prog 44 #[.slice A0 n c0, .int .i64 size] w fun e w' => e = .returned (.bool false) ∧ w = w' := by
  by_cases h0 : n ≤ 65536
  · have g0 : decide ((n : Int) ≤ 65536) = true := by simp; omega
    by_cases h1 : 16 ≤ size
    · have g2 : decide (size ≤ 4096) = false := by simp; omega
      clear h
      go_enter Try.func44, Try.ntmps44
      go_wp2
      go_ret
      exact ⟨rfl, rfl⟩
    · have g1 : decide (16 ≤ size) = false := by simp; omega
      clear h
      go_enter Try.func44, Try.ntmps44
      go_wp2
      go_ret
      exact ⟨rfl, rfl⟩
  · have g0 : decide ((n : Int) ≤ 65536) = false := by simp; omega
    clear h
    go_enter Try.func44, Try.ntmps44
    go_wp2
    go_ret
    exact ⟨rfl, rfl⟩
end Go.Proofs.Ytoefligelajfkaa.Block

namespace Go.Proofs.Ytoefligelajfkaa.Own
open Go.RowKit Go.Proofs.YtoefligelajfkaaW.PrintWords Go.Proofs.YtoefligelajfkaaW.PrintLast Go.Proofs.YtoefligelajfkaaW.PrintMore Go.Proofs.Ytoefligelajfkaa.Press Go.Proofs.Ytoefligelajfkaa.Sep Go.Proofs.Ytoefligelajfkaa.Block
open Go.Proofs.Ytoefligelajfkaa.PBlockOpens (S58 k58 z58 k58_open k58_mk k58_mkM k58_openM rd_T58 at_T58)

def enc58 (x : S58) : List Value := [.int .i64 x.f0, .int .i64 x.f1, .int .i64 x.f2, .int .i64 x.f3]

/-- What is beside the Book: left and want with their rows (the first lo of left's are given away), rows at hand, a box. -/
def XS (b : Nat) (vL vW : SlV) (us ws : List SlV) (ys zs : List (List Int)) (lo : Nat) (T : Nat → Pr) (B2 : Pr) : Col → Pr
  | .left i => if i < lo then empP else match us[i]?, ys[i]? with
    | some u, some y => rowP b 5 1 u (nums .u8 y)
    | _, _ => empP
  | .want i => match ws[i]?, zs[i]? with
    | some u, some y => rowP b 5 1 u (nums .u8 y)
    | _, _ => empP
  | .lefts => rowP b 22 1 vL (us.map SlV.v)
  | .wants => rowP b 22 1 vW (ws.map SlV.v)
  | .tmp k => T k
  | .box2 => B2
  | _ => empP
def upT (T : Nat → Pr) (k : Nat) (P : Pr) : Nat → Pr := fun j => if j = k then P else T j
theorem upT_same (T : Nat → Pr) (k : Nat) (P : Pr) : upT T k P k = P := if_pos rfl
theorem upT_ne (T : Nat → Pr) {k j : Nat} (P : Pr) (h : j ≠ k) : upT T k P j = T j := if_neg h
theorem xs_tmp {b : Nat} {vL vW : SlV} {us ws : List SlV} {ys zs : List (List Int)} {lo : Nat} {T : Nat → Pr} {B2 : Pr} (k : Nat) (P : Pr) : upd (XS b vL vW us ws ys zs lo T B2) (.tmp k) P = XS b vL vW us ws ys zs lo (upT T k P) B2 := by
  funext K
  cases K with
  | tmp j =>
    by_cases h : j = k
    · subst h; simp [upd, XS, upT]
    · simp [upd, XS, upT, h]
  | _ => simp [upd, XS]
theorem xs_box2 {b : Nat} {vL vW : SlV} {us ws : List SlV} {ys zs : List (List Int)} {lo : Nat} {T : Nat → Pr} {B2 : Pr} (P : Pr) : upd (XS b vL vW us ws ys zs lo T B2) .box2 P = XS b vL vW us ws ys zs lo T P := by
  funext K
  cases K <;> simp [upd, XS]

/-- The whole of it. -/
structure OI (b kb : Nat) (w0 W : World) (R : Nat) (vL vW : SlV) (us ws : List SlV) (ys zs : List (List Int)) (lo : Nat) (T : Nat → Pr) (B2 : Pr) (nr nl : Nat) : Prop where
  ex : ∃ c vr vl rs ls, Store b w0 W c (stS b kb R vr vl rs ls (XS b vL vW us ws ys zs lo T B2)) ∧ rs.length ≤ nr ∧ ls.length ≤ nl ∧ (∀ r ∈ rs, 0 ≤ r.mark ∧ r.mark ≤ 200) ∧ ∀ r ∈ ls, 0 ≤ r.mark ∧ r.mark ≤ 1000000000
  lu : us.length = ys.length
  lw : ws.length = zs.length
  bu : ∀ u ∈ us, u.n ≤ 1000000

section
variable {b kb : Nat} {w0 W W1 : World} {R : Nat} {vL vW : SlV} {us ws : List SlV} {ys zs : List (List Int)} {lo : Nat} {T : Nat → Pr} {B2 : Pr} {nr nl : Nat}
theorem OI.bel (h : OI b kb w0 W R vL vW us ws ys zs lo T B2 nr nl) : Below b w0 W := by
  obtain ⟨c, vr, vl, rs, ls, h1, _⟩ := h.ex
  exact h1.bel
theorem OI.below (h : OI b kb w0 W R vL vW us ws ys zs lo T B2 nr nl) (hb0 : b ≤ w0.heap.size) (hb : Below W.heap.size W W1) : OI b kb w0 W1 R vL vW us ws ys zs lo T B2 nr nl := by
  obtain ⟨c, vr, vl, rs, ls, h1, h2⟩ := h.ex
  exact ⟨⟨c, vr, vl, rs, ls, h1.below hb0 hb, h2⟩, h.lu, h.lw, h.bu⟩
/-- A new row. -/
theorem OI.new (h : OI b kb w0 W R vL vW us ws ys zs lo T B2 nr nl) (hb0 : b ≤ w0.heap.size) (hb : Below W.heap.size W W1) (k : Nat) {e sz : Nat} {u : SlV} {xs : List Value} (ho : W1.ownsRow W.heap.size e sz u.v u.n xs) :
    OI b kb w0 W1 R vL vW us ws ys zs lo (upT T k (rowP b e sz u xs)) B2 nr nl := by
  obtain ⟨c, vr, vl, rs, ls, h1, h2⟩ := h.ex
  have h3 := h1.fresh hb0 hb (fun _ => .tmp k)
  have h4 := st_set h3 (K := .tmp k) rfl (T := rowP b e sz u xs) ⟨own_less ho (Nat.le_trans hb0 h1.bel.size), fun g hg => by
    have := own_base ho g hg
    show (if g < W.heap.size then c g else _) = _
    rw [if_neg (by omega)]⟩
  rw [xs_tmp] at h4
  exact ⟨⟨_, vr, vl, rs, ls, h4, h2⟩, h.lu, h.lw, h.bu⟩
/-- Two of unlike types. -/
theorem OI.new2 (h : OI b kb w0 W R vL vW us ws ys zs lo T B2 nr nl) (hb0 : b ≤ w0.heap.size) (hb : Below W.heap.size W W1) (k k' : Nat) {e sz e' sz' : Nat} {u u' : SlV} {xs xs' : List Value} (ho : W1.ownsRow W.heap.size e sz u.v u.n xs) (ho' : W1.ownsRow W.heap.size e' sz' u'.v u'.n xs') (he : e ≠ e') (_hk : k ≠ k') :
    OI b kb w0 W1 R vL vW us ws ys zs lo (upT (upT T k (rowP b e sz u xs)) k' (rowP b e' sz' u' xs')) B2 nr nl := by
  obtain ⟨c, vr, vl, rs, ls, h1, h2⟩ := h.ex
  have hbW := Nat.le_trans hb0 h1.bel.size
  have h3 := h1.fresh hb0 hb (fun g => if u.v.ownBlock = some g then .tmp k else .tmp k')
  have h4 := st_set h3 (K := .tmp k) rfl (T := rowP b e sz u xs) ⟨own_less ho hbW, fun g hg => by
    have := own_base ho g hg
    show (if g < W.heap.size then c g else _) = _
    rw [if_neg (by omega), if_pos hg]⟩
  rw [xs_tmp] at h4
  have h5 := st_set h4 (K := .tmp k') rfl (T := rowP b e' sz' u' xs') ⟨own_less ho' hbW, fun g hg => by
    have := own_base ho' g hg
    show (if g < W.heap.size then c g else _) = _
    rw [if_neg (by omega), if_neg (fun e0 => ?_)]
    rcases own_type_ne ho' ho (fun e1 => he e1.symm) with h6 | h6
    · rw [h6] at hg; cases hg
    · exact h6 (by rw [hg, e0])⟩
  rw [xs_tmp] at h5
  exact ⟨⟨_, vr, vl, rs, ls, h5, h2⟩, h.lu, h.lw, h.bu⟩
/-- A box. -/
theorem OI.box (h : OI b kb w0 W R vL vW us ws ys zs lo T B2 nr nl) (hb0 : b ≤ w0.heap.size) (cs : Array Value) (t : TypeId) :
    OI b kb w0 (W.alloc (.cells cs t)) R vL vW us ws ys zs lo T (blkP b W.heap.size t cs) nr nl := by
  obtain ⟨c, vr, vl, rs, ls, h1, h2⟩ := h.ex
  obtain ⟨c', h3⟩ := st_alloc h1 hb0 (K := .box2) rfl cs t
  rw [xs_box2] at h3
  exact ⟨⟨_, vr, vl, rs, ls, h3, h2⟩, h.lu, h.lw, h.bu⟩
/-- What is no more wanted. -/
theorem OI.drop (h : OI b kb w0 W R vL vW us ws ys zs lo T B2 nr nl) : OI b kb w0 W R vL vW us ws ys zs lo (fun _ => empP) empP nr nl := by
  obtain ⟨c, vr, vl, rs, ls, h1, h2⟩ := h.ex
  refine ⟨⟨c, vr, vl, rs, ls, ⟨h1.bel, fun K => ?_⟩, h2⟩, h.lu, h.lw, h.bu⟩
  have h3 := h1.all K
  cases K <;> first | exact h3 | exact trivial
theorem OI.blk {bx t : Nat} {cs : Array Value} (h : OI b kb w0 W R vL vW us ws ys zs lo T (blkP b bx t cs) nr nl) : W.heap[bx]? = some (.cells cs t (0, 0)) := by
  obtain ⟨c, vr, vl, rs, ls, h1, h2⟩ := h.ex
  exact (h1.all .box2).1
theorem OI.own {k e sz : Nat} {u : SlV} {xs : List Value} (h : OI b kb w0 W R vL vW us ws ys zs lo T B2 nr nl) (hT : T k = rowP b e sz u xs) : W.ownsRow b e sz u.v u.n xs := by
  obtain ⟨c, vr, vl, rs, ls, h1, h2⟩ := h.ex
  have h3 := h1.all (.tmp k)
  simp only [stS, XS, hT] at h3
  exact h3.1
theorem OI.take (h : OI b kb w0 W R vL vW us ws ys zs lo T B2 nr nl) (hb0 : b ≤ w0.heap.size) {k : Nat} {u : SlV} {xs : List Value} (hT : T k = rowP b 5 1 u xs) (hu : u.n ≤ 1000000) (hnr : nr ≤ 100000000) :
    Calls Try.prog 46 #[.pointer (some ⟨kb, 0, none⟩), .slice u.A u.n u.c] W fun e w' => e = .returned (.tuple #[]) ∧ OI b kb w0 w' R vL vW us ws ys zs lo (upT T k empP) B2 (nr + 1) nl := by
  obtain ⟨c, vr, vl, rs, ls, h1, h2, h3, h4, h5⟩ := h.ex
  refine (take_any b kb R vr vl u rs ls (XS b vL vW us ws ys zs lo T B2) c w0 W xs (.tmp k) rfl (by simp) hb0 h1 rfl hT (by omega) hu).mono ?_
  rintro e w' ⟨he, c', vr', h6⟩
  rw [xs_tmp] at h6
  refine ⟨he, ⟨c', vr', vl, _, ls, h6, by simp; omega, h3, ?_, h5⟩, h.lu, h.lw, h.bu⟩
  intro r hr
  rcases List.mem_append.1 hr with hr | hr
  · exact h4 r hr
  · rw [List.mem_singleton.1 hr]
    show 0 ≤ 1 + 2 * ((rs.length : Int) % 100) ∧ 1 + 2 * ((rs.length : Int) % 100) ≤ 200
    omega
theorem OI.list (h : OI b kb w0 W R vL vW us ws ys zs lo T B2 nr nl) (hb0 : b ≤ w0.heap.size) {k : Nat} {u : SlV} {xs : List Value} (hT : T k = rowP b 58 4 u xs) (hu : u.n ≤ 1000000) (hnl : nl ≤ 100000000) :
    Calls Try.prog 47 #[.pointer (some ⟨kb, 0, none⟩), .slice u.A u.n u.c] W fun e w' => e = .returned (.tuple #[]) ∧ OI b kb w0 w' R vL vW us ws ys zs lo (upT T k empP) B2 nr (nl + 1) := by
  obtain ⟨c, vr, vl, rs, ls, h1, h2, h3, h4, h5⟩ := h.ex
  refine (list_any b kb R vr vl u rs ls (XS b vL vW us ws ys zs lo T B2) c w0 W xs (.tmp k) rfl (by simp) hb0 h1 rfl hT (by omega) hu).mono ?_
  rintro e w' ⟨he, c', vl', h6⟩
  rw [xs_tmp] at h6
  refine ⟨he, ⟨c', vr, vl', rs, _, h6, h2, by simp; omega, h4, ?_⟩, h.lu, h.lw, h.bu⟩
  intro r hr
  rcases List.mem_append.1 hr with hr | hr
  · exact h5 r hr
  · rw [List.mem_singleton.1 hr]
    show 0 ≤ 1000 + 2 * (ls.length : Int) ∧ 1000 + 2 * (ls.length : Int) ≤ 1000000000
    omega
theorem OI.still (h : OI b kb w0 W R vL vW us ws ys zs lo T B2 nr nl) (hb0 : b ≤ w0.heap.size) (hR : R ≤ 1000000000000) (hnr : nr ≤ 100000000) (hnl : nl ≤ 100000000) :
    Calls Try.prog 48 #[.pointer (some ⟨kb, 0, none⟩)] W fun e w' => e = .returned (.bool true) ∧ Below W.heap.size W w' := by
  obtain ⟨c, vr, vl, rs, ls, h1, h2, h3, h4, h5⟩ := h.ex
  exact still_any b kb R vr vl rs ls _ c w0 W hb0 hR h1 (by omega) (by omega) h4 h5
theorem OI.grow (h : OI b kb w0 W R vL vW us ws ys zs lo T B2 nr nl) (hb0 : b ≤ w0.heap.size) (hR : R ≤ 100000000000) (hnr : nr ≤ 100000000) (hnl : nl ≤ 100000000) :
    Calls Try.prog 49 #[.pointer (some ⟨kb, 0, none⟩)] W fun e w' => e = .returned (.tuple #[]) ∧ OI b kb w0 w' (R + 64 * (nr + nl)) vL vW us ws ys zs lo T B2 nr nl := by
  obtain ⟨c, vr, vl, rs, ls, h1, h2, h3, h4, h5⟩ := h.ex
  refine (grow_any b kb R vr vl rs ls _ c w0 W hb0 hR h1 (by omega) (by omega) h4 h5).mono ?_
  rintro e w' ⟨he, c', rs', ls', h6, h7, h8⟩
  exact ⟨he, ⟨c', vr, vl, rs', ls', st_mono (by omega) h8, by rw [h6.1]; exact h2, by rw [h7.1]; exact h3, h6.mark (p := fun m => 0 ≤ m ∧ m ≤ 200) h4, h7.mark (p := fun m => 0 ≤ m ∧ m ≤ 1000000000) h5⟩, h.lu, h.lw, h.bu⟩
/-- left's next is taken. -/
theorem OI.takeLeft (h : OI b kb w0 W R vL vW us ws ys zs lo T B2 nr nl) (hb0 : b ≤ w0.heap.size) {u : SlV} (hu : us[lo]? = some u) (hnr : nr ≤ 100000000) :
    Calls Try.prog 46 #[.pointer (some ⟨kb, 0, none⟩), .slice u.A u.n u.c] W fun e w' => e = .returned (.tuple #[]) ∧ OI b kb w0 w' R vL vW us ws ys zs (lo + 1) T B2 (nr + 1) nl := by
  obtain ⟨c, vr, vl, rs, ls, h1, h2, h3, h4, h5⟩ := h.ex
  have hl := (List.getElem?_eq_some_iff.1 hu).1
  obtain ⟨y, hy⟩ : ∃ y, ys[lo]? = some y := ⟨_, List.getElem?_eq_getElem (by rw [← h.lu]; exact hl)⟩
  refine (take_any b kb R vr vl u rs ls (XS b vL vW us ws ys zs lo T B2) c w0 W (nums .u8 y) (.left lo) rfl (by simp) hb0 h1 rfl (by simp only [XS, hu, hy, Nat.lt_irrefl, if_false]) (by omega) (h.bu u (List.mem_of_getElem? hu))).mono ?_
  rintro e w' ⟨he, c', vr', h6⟩
  refine ⟨he, ⟨c', vr', vl, rs ++ [⟨u, u, 1 + 2 * ((rs.length : Int) % 100)⟩], ls, ?_, by simp; omega, h3, ?_, h5⟩, h.lu, h.lw, h.bu⟩
  · have e1 : upd (XS b vL vW us ws ys zs lo T B2) (.left lo) empP = XS b vL vW us ws ys zs (lo + 1) T B2 := by
      funext K
      cases K with
      | left j =>
        by_cases hj : j = lo
        · subst hj; simp [upd, XS]
        · by_cases hj2 : j < lo
          · simp [upd, XS, hj, hj2, show j < lo + 1 from by omega]
          · simp [upd, XS, hj, hj2, show ¬ j < lo + 1 from by omega]
      | _ => simp [upd, XS]
    rw [e1] at h6
    exact h6
  · intro r hr
    rcases List.mem_append.1 hr with hr | hr
    · exact h4 r hr
    · rw [List.mem_singleton.1 hr]
      show 0 ≤ 1 + 2 * ((rs.length : Int) % 100) ∧ 1 + 2 * ((rs.length : Int) % 100) ≤ 200
      omega
end
end Go.Proofs.Ytoefligelajfkaa.Own

namespace Go.Proofs.Ytoefligelajfkaa.Own
open Go.RowKit Go.Proofs.YtoefligelajfkaaW.PrintWords Go.Proofs.YtoefligelajfkaaW.PrintLast Go.Proofs.YtoefligelajfkaaW.PrintMore Go.Proofs.Ytoefligelajfkaa.Press Go.Proofs.Ytoefligelajfkaa.Sep Go.Proofs.Ytoefligelajfkaa.Block
open Go.Proofs.Ytoefligelajfkaa.PBlockOpens (S58 k58 z58 k58_open k58_mk k58_mkM k58_openM rd_T58 at_T58)

section
variable {b kb R : Nat} {vr vl : SlV} {rs ls : List BRow} {X : Col → Pr} {c : Nat → Col} {w0 W W1 : World}
/-- A header beside the Book has grown. -/
theorem st_app (h : Store b w0 W c (stS b kb R vr vl rs ls X)) {K : Col} (hK : K.out = true) {e sz m : Nat} {v : SlV} {xs news : List Value} (hT : X K = rowP b e sz v xs) {v1 : Value} (hv : W1.ownsRow b e sz v1 (v.n + m) (xs ++ news)) (hB : Below b w0 W1) (hg : W.grownBy W1 v.v.ownBlock)
    (hat : (∃ A k, v.v = .slice A v.n k ∧ v1 = .slice A (v.n + m) k) ∨ ∃ k, v1.ownBlock = some k ∧ W.heap.size ≤ k) :
    ∃ A1 k1, v1 = .slice A1 (v.n + m) k1 ∧ Store b w0 W1 (fun g => if g < W.heap.size then c g else K) (stS b kb R vr vl rs ls (upd X K (rowP b e sz ⟨A1, v.n + m, k1⟩ (xs ++ news)))) := by
  have h0 := st_at h hK hT
  obtain ⟨A1, k1, rfl⟩ := own_slice hv
  refine ⟨A1, k1, rfl, ?_⟩
  have h1 := h.mod K (W1 := W1) (rowP b e sz ⟨A1, v.n + m, k1⟩ (xs ++ news)) hB (c' := fun g => if g < W.heap.size then c g else K) (fun g hl _ => by simp [hl])
    (fun g hl hgc => hg.block g hl (fun e => hgc (h0.2 g e.symm))) ⟨hv, ?_⟩
  · rw [stS_upd hK] at h1
    exact h1
  · intro g hgk
    rcases hat with ⟨A, k, e1, e2⟩ | ⟨k, hk, hl⟩
    · injection e2 with e3 e4 e5
      subst e3 e5
      have hk2 : v.v.ownBlock = some g := by
        rw [e1]
        cases A1 with
        | none => simp [SlV.v, Value.ownBlock] at hgk
        | some a => simpa [SlV.v, Value.ownBlock] using hgk
      have hl := own_lt h0.1 g hk2
      have := h0.2 g hk2
      simp [hl, this]
    · replace hgk : (Value.slice A1 (v.n + m) k1).ownBlock = some g := hgk
      rw [hk] at hgk
      injection hgk with e5
      simp [show ¬ g < W.heap.size from by omega]
/-- Blocks go over from one to another that had none. -/
theorem st_move (h : Store b w0 W c (stS b kb R vr vl rs ls X)) {K1 K2 : Col} (hK1 : K1.out = true) (hK2 : K2.out = true) (hne : K1 ≠ K2) {T : Pr} (hT : X K1 = T) : ∃ c', Store b w0 W c' (stS b kb R vr vl rs ls (upd (upd X K2 T) K1 empP)) := by
  have h1 := h.move K1 K2 hne T (st_at h hK1 hT)
  refine ⟨fun g => if c g = K1 then K2 else c g, h1.bel, fun K => ?_⟩
  have h2 := h1.all K
  by_cases e1 : K = K1
  · subst e1
    rw [stS_out hK1, upd_same]
    exact trivial
  · rw [if_neg e1] at h2
    by_cases e2 : K = K2
    · subst e2
      rw [if_pos rfl] at h2
      rw [stS_out hK2, upd_ne _ _ e1, upd_same]
      exact h2
    · rw [if_neg e2] at h2
      cases K <;> first | exact h2 | (simp only [stS] at h2 ⊢; rw [upd_ne _ _ e1, upd_ne _ _ e2]; exact h2)
end

section
variable {b kb : Nat} {w0 W W1 : World} {R : Nat} {vL vW : SlV} {us ws : List SlV} {ys zs : List (List Int)} {lo : Nat} {T : Nat → Pr} {B2 : Pr} {nr nl : Nat}
theorem OI.lefts (h : OI b kb w0 W R vL vW us ws ys zs lo T B2 nr nl) : W.ownsRow b 22 1 vL.v vL.n (us.map SlV.v) ∧ vL.n = us.length := by
  obtain ⟨c, vr, vl, rs, ls, h1, h2⟩ := h.ex
  have h3 := h1.all .lefts
  exact ⟨h3.1, by have := h3.1.1; simp at this; omega⟩
theorem OI.wants (h : OI b kb w0 W R vL vW us ws ys zs lo T B2 nr nl) : W.ownsRow b 22 1 vW.v vW.n (ws.map SlV.v) ∧ vW.n = ws.length := by
  obtain ⟨c, vr, vl, rs, ls, h1, h2⟩ := h.ex
  have h3 := h1.all .wants
  exact ⟨h3.1, by have := h3.1.1; simp at this; omega⟩
theorem xs_left {k : Nat} {u : SlV} {y : List Int} {v1 : SlV} (hlo : lo = 0) (hl : us.length = ys.length) :
    upd (upd (upd (XS b vL vW us ws ys zs lo T B2) .lefts (rowP b 22 1 v1 (us.map SlV.v ++ [u.v]))) (.left us.length) (rowP b 5 1 u (nums .u8 y))) (.tmp k) empP = XS b v1 vW (us ++ [u]) ws (ys ++ [y]) zs lo (upT T k empP) B2 := by
  subst hlo
  funext K
  cases K with
  | tmp j =>
    by_cases h : j = k
    · subst h; simp [upd, XS, upT]
    · simp [upd, XS, upT, h]
  | left j =>
    by_cases hj : j = us.length
    · subst hj
      have e1 : (us ++ [u])[us.length]? = some u := List.getElem?_concat_length
      have e2 : (ys ++ [y])[us.length]? = some y := by rw [hl]; exact List.getElem?_concat_length
      simp only [upd, XS, e1, e2]
      simp
    · by_cases hj2 : j < us.length
      · simp [upd, XS, hj, List.getElem?_append_left hj2, List.getElem?_append_left (show j < ys.length by omega)]
      · have e1 : us[j]? = none := List.getElem?_eq_none (by omega)
        have e2 : (us ++ [u])[j]? = none := List.getElem?_eq_none (by simp; omega)
        simp [upd, XS, hj, e1, e2]
  | _ => simp [upd, XS]
theorem OI.left (h : OI b kb w0 W R vL vW us ws ys zs 0 T B2 nr nl) {k : Nat} {u : SlV} {y : List Int} (hT : T k = rowP b 5 1 u (nums .u8 y)) (hu : u.n ≤ 1000000) {v1 : Value} (hv : W1.ownsRow b 22 1 v1 (vL.n + 1) (us.map SlV.v ++ [u.v])) (hB : Below b w0 W1) (hg : W.grownBy W1 vL.v.ownBlock)
    (hat : (∃ A k, vL.v = .slice A vL.n k ∧ v1 = .slice A (vL.n + 1) k) ∨ ∃ k, v1.ownBlock = some k ∧ W.heap.size ≤ k) :
    ∃ A1 k1, v1 = .slice A1 (us.length + 1) k1 ∧ OI b kb w0 W1 R ⟨A1, us.length + 1, k1⟩ vW (us ++ [u]) ws (ys ++ [y]) zs 0 (upT T k empP) B2 nr nl := by
  have hn := h.lefts.2
  obtain ⟨c, vr, vl, rs, ls, h1, h2⟩ := h.ex
  obtain ⟨A1, k1, rfl, h3⟩ := st_app h1 (K := .lefts) rfl rfl hv hB hg hat
  obtain ⟨c', h4⟩ := st_move h3 (K1 := .tmp k) (K2 := .left us.length) rfl rfl (by simp) (T := rowP b 5 1 u (nums .u8 y)) (by rw [upd_ne _ _ (by simp)]; exact hT)
  rw [xs_left rfl h.lu] at h4
  rw [hn] at h4 ⊢
  refine ⟨A1, k1, rfl, ⟨c', vr, vl, rs, ls, h4, h2⟩, by simp [h.lu], h.lw, ?_⟩
  intro u' hu'
  rcases List.mem_append.1 hu' with hu' | hu'
  · exact h.bu u' hu'
  · rw [List.mem_singleton.1 hu']; exact hu
theorem xs_want {k : Nat} {u : SlV} {y : List Int} {v1 : SlV} (hl : ws.length = zs.length) :
    upd (upd (upd (XS b vL vW us ws ys zs lo T B2) .wants (rowP b 22 1 v1 (ws.map SlV.v ++ [u.v]))) (.want ws.length) (rowP b 5 1 u (nums .u8 y))) (.tmp k) empP = XS b vL v1 us (ws ++ [u]) ys (zs ++ [y]) lo (upT T k empP) B2 := by
  funext K
  cases K with
  | tmp j =>
    by_cases h : j = k
    · subst h; simp [upd, XS, upT]
    · simp [upd, XS, upT, h]
  | want j =>
    by_cases hj : j = ws.length
    · subst hj
      have e1 : (ws ++ [u])[ws.length]? = some u := List.getElem?_concat_length
      have e2 : (zs ++ [y])[ws.length]? = some y := by rw [hl]; exact List.getElem?_concat_length
      simp only [upd, XS, e1, e2]
      simp
    · by_cases hj2 : j < ws.length
      · simp [upd, XS, hj, List.getElem?_append_left hj2, List.getElem?_append_left (show j < zs.length by omega)]
      · have e1 : ws[j]? = none := List.getElem?_eq_none (by omega)
        have e2 : (ws ++ [u])[j]? = none := List.getElem?_eq_none (by simp; omega)
        simp [upd, XS, hj, e1, e2]
  | _ => simp [upd, XS]
theorem OI.want (h : OI b kb w0 W R vL vW us ws ys zs lo T B2 nr nl) {k : Nat} {u : SlV} {y : List Int} (hT : T k = rowP b 5 1 u (nums .u8 y)) {v1 : Value} (hv : W1.ownsRow b 22 1 v1 (vW.n + 1) (ws.map SlV.v ++ [u.v])) (hB : Below b w0 W1) (hg : W.grownBy W1 vW.v.ownBlock)
    (hat : (∃ A k, vW.v = .slice A vW.n k ∧ v1 = .slice A (vW.n + 1) k) ∨ ∃ k, v1.ownBlock = some k ∧ W.heap.size ≤ k) :
    ∃ A1 k1, v1 = .slice A1 (ws.length + 1) k1 ∧ OI b kb w0 W1 R vL ⟨A1, ws.length + 1, k1⟩ us (ws ++ [u]) ys (zs ++ [y]) lo (upT T k empP) B2 nr nl := by
  have hn := h.wants.2
  obtain ⟨c, vr, vl, rs, ls, h1, h2⟩ := h.ex
  obtain ⟨A1, k1, rfl, h3⟩ := st_app h1 (K := .wants) rfl rfl hv hB hg hat
  obtain ⟨c', h4⟩ := st_move h3 (K1 := .tmp k) (K2 := .want ws.length) rfl rfl (by simp) (T := rowP b 5 1 u (nums .u8 y)) (by rw [upd_ne _ _ (by simp)]; exact hT)
  rw [xs_want h.lw] at h4
  rw [hn] at h4 ⊢
  exact ⟨A1, k1, rfl, ⟨c', vr, vl, rs, ls, h4, h2⟩, h.lu, by simp [h.lw], h.bu⟩
theorem OI.mono {nr' nl' : Nat} (h : OI b kb w0 W R vL vW us ws ys zs lo T B2 nr nl) (h1 : nr ≤ nr') (h2 : nl ≤ nl') : OI b kb w0 W R vL vW us ws ys zs lo T B2 nr' nl' := by
  obtain ⟨c, vr, vl, rs, ls, h3, h4, h5, h6⟩ := h.ex
  exact ⟨⟨c, vr, vl, rs, ls, h3, Nat.le_trans h4 h1, Nat.le_trans h5 h2, h6⟩, h.lu, h.lw, h.bu⟩
theorem OI.leftCell (h : OI b kb w0 W R vL vW us ws ys zs lo T B2 nr nl) {i : Nat} {u : SlV} (hu : us[i]? = some u) : ∃ gL, vL.A = some ⟨gL, 0, none⟩ ∧ us.length ≤ vL.c ∧ W.cell? ⟨gL, i, none⟩ = some (.slice u.A u.n u.c) := by
  have hL := h.lefts
  have hi := (List.getElem?_eq_some_iff.1 hu).1
  obtain ⟨g1, c1, e1, hc, h5, -⟩ := own_cell hL.1 (by omega)
  obtain ⟨LA, Ln, Lc⟩ := vL
  injection e1 with e1 e2 e3
  simp only at hL hc
  subst e1 e3
  exact ⟨g1, rfl, by omega, h5 i _ (by rw [List.getElem?_map, hu]; rfl)⟩
theorem OI.leftRow (h : OI b kb w0 W R vL vW us ws ys zs 0 T B2 nr nl) {i : Nat} {u : SlV} {y : List Int} (hu : us[i]? = some u) (hy : ys[i]? = some y) : W.ownsRow b 5 1 u.v u.n (nums .u8 y) := by
  obtain ⟨c, vr, vl, rs, ls, h1, h2⟩ := h.ex
  have h3 := h1.all (.left i)
  simp only [stS, XS, hu, hy, Nat.not_lt_zero, if_false] at h3
  exact h3.1
theorem OI.leftLast {u : SlV} {y : List Int} (h : OI b kb w0 W R vL vW (us ++ [u]) ws (ys ++ [y]) zs 0 T B2 nr nl) : W.ownsRow b 5 1 u.v u.n (nums .u8 y) := by
  have hl : us.length = ys.length := by have := h.lu; simp at this; exact this
  exact h.leftRow (i := us.length) List.getElem?_concat_length (by rw [hl]; exact List.getElem?_concat_length)
/-- What is read of left and want. -/
theorem OI.at_ (h : OI b kb w0 W R vL vW us ws ys zs 0 T B2 nr nl) (hyz : ys = zs) {i : Nat} (hi : i < us.length) : ∃ gL gW A c A' c' y, vL.A = some ⟨gL, 0, none⟩ ∧ vW.A = some ⟨gW, 0, none⟩ ∧ W.cell? ⟨gL, i, none⟩ = some (.slice A y.length c) ∧ W.cell? ⟨gW, i, none⟩ = some (.slice A' y.length c') ∧
    Kd.C (Kd.int .u8) W A y.length y ∧ Kd.C (Kd.int .u8) W A' y.length y ∧ y.length ≤ 1000000 := by
  subst hyz
  have hL := h.lefts
  have hW := h.wants
  have hlu := h.lu
  have hlw := h.lw
  obtain ⟨c, vr, vl, rs, ls, h1, h2⟩ := h.ex
  obtain ⟨u, hu⟩ : ∃ u, us[i]? = some u := ⟨_, List.getElem?_eq_getElem hi⟩
  obtain ⟨w, hw⟩ : ∃ u, ws[i]? = some u := ⟨_, List.getElem?_eq_getElem (by omega)⟩
  obtain ⟨y, hy⟩ : ∃ y, ys[i]? = some y := ⟨_, List.getElem?_eq_getElem (by omega)⟩
  have h3 := h1.all (.left i)
  have h4 := h1.all (.want i)
  simp only [stS, XS, hu, hy, Nat.not_lt_zero, if_false] at h3
  simp only [stS, XS, hw, hy] at h4
  obtain ⟨g1, c1, e1, -, h5, -⟩ := own_cell hL.1 (by omega)
  obtain ⟨g2, c2, e2, -, h6, -⟩ := own_cell hW.1 (by omega)
  obtain ⟨LA, Ln, Lc⟩ := vL
  obtain ⟨WA, Wn, Wc⟩ := vW
  injection e1 with e1 _ _
  injection e2 with e2 _ _
  subst e1 e2
  have hun : u.n = y.length := by have := h3.1.1; simp [nums] at this; omega
  have hwn : w.n = y.length := by have := h4.1.1; simp [nums] at this; omega
  obtain ⟨uA, un, uc⟩ := u
  obtain ⟨wA, wn, wc⟩ := w
  simp only at hun hwn
  subst hun hwn
  have r1 : Kd.R (Kd.int .u8) 5 W b (fun _ => True) (.slice uA y.length uc) y := Kd.R_of_own h3.1 (fun _ _ => trivial)
  have r2 : Kd.R (Kd.int .u8) 5 W b (fun _ => True) (.slice wA y.length wc) y := Kd.R_of_own h4.1 (fun _ _ => trivial)
  exact ⟨g1, g2, uA, uc, wA, wc, y, rfl, rfl, h5 i _ (by rw [List.getElem?_map, hu]; rfl), h6 i _ (by rw [List.getElem?_map, hw]; rfl), (Kd.R_reads' r1).2.2, (Kd.R_reads' r2).2.2, h.bu _ (List.mem_of_getElem? hu)⟩
end

/-- A row of bytes as it is told, and as the contracts have it. -/
theorem C_own {W : World} {b n c : Nat} {A : Option Addr} {y : List Int} (h : W.ownsRow b 5 1 (.slice A n c) n (nums .u8 y)) : n = y.length ∧ n ≤ c ∧ Kd.C (Kd.int .u8) W A n y := by
  have hn : n = y.length := by have := h.1; simp [nums] at this; omega
  subst hn
  have r1 : Kd.R (Kd.int .u8) 5 W b (fun _ => True) (.slice A y.length c) y := Kd.R_of_own h (fun _ _ => trivial)
  exact ⟨rfl, (Kd.R_reads' r1).2.1, (Kd.R_reads' r1).2.2⟩
theorem own_bytes {W : World} {b n c : Nat} {A : Option Addr} {y : List Int} (h : Kd.R (Kd.int .u8) 5 W b (fun _ => True) (.slice A n c) y) : W.ownsRow b 5 1 (SlV.v ⟨A, n, c⟩) n (nums .u8 y) := by
  obtain rfl := (Kd.R_reads' h).1
  exact Kd.own_of_R h

theorem reps58 : ∀ (bl : List S58) (inner : List Value), Reps (fun (x : S58) cs => cs = enc58 x) 4 bl inner → inner = bl.flatMap enc58
  | [], inner, h => List.eq_nil_of_length_eq_zero (by simpa using h.1)
  | x :: r, inner, h => by
    have h1 := h.2 0 x rfl
    simp only [Nat.zero_mul, List.drop_zero] at h1
    have h2 : Reps (fun (x : S58) cs => cs = enc58 x) 4 r (inner.drop 4) := by
      refine ⟨by rw [List.length_drop, h.1, List.length_cons]; omega, fun j p hj => ?_⟩
      have h3 := h.2 (j + 1) p (by simpa using hj)
      rw [List.drop_drop, show 4 + j * 4 = (j + 1) * 4 from by omega]
      exact h3
    rw [List.flatMap_cons, ← reps58 r _ h2, ← h1, List.take_append_drop]
theorem own_blocks {W : World} {b n c : Nat} {A : Option Addr} {bl : List S58} (h : k58.R 58 W b (fun _ => True) (.slice A n c) bl) : W.ownsRow b 58 4 (SlV.v ⟨A, n, c⟩) n (bl.flatMap enc58) := by
  obtain rfl := (Kd.R_reads' h).1
  obtain ⟨-, inner, ho, hr⟩ := h
  have h1 := reps58 bl inner (hr.imp_ (fun p cs hp => (k58_openM hp)))
  rw [h1] at ho
  exact ho
theorem reps58_mk (W : World) (b : Nat) : ∀ bl : List S58, Reps (k58.M W b (fun _ => True)) 4 bl (bl.flatMap enc58)
  | [] => ⟨rfl, fun j p h => by simp at h⟩
  | x :: r => by
    have ih := reps58_mk W b r
    refine ⟨by rw [List.flatMap_cons, List.length_append, ih.1, List.length_cons]; simp [enc58]; omega, fun j p hj => ?_⟩
    cases j with
    | zero =>
      simp at hj
      subst hj
      simpa [List.flatMap_cons, enc58] using k58_mkM W b (fun _ => True) x
    | succ j =>
      have h1 := ih.2 j p (by simpa using hj)
      rw [List.flatMap_cons, show (j + 1) * 4 = (enc58 x).length + j * 4 from by simp [enc58]; omega, List.drop_append, List.drop_of_length_le (by omega), List.nil_append, Nat.add_sub_cancel_left]
      exact h1
theorem C_blocks {W : World} {b n c : Nat} {A : Option Addr} {bl : List S58} (h : W.ownsRow b 58 4 (.slice A n c) n (bl.flatMap enc58)) : n = bl.length ∧ n ≤ c ∧ k58.C W A n bl := by
  have hl : (bl.flatMap enc58).length = bl.length * 4 := (reps58_mk W b bl).1
  have hn : n = bl.length := by have := h.1; omega
  subst hn
  have r1 : k58.R 58 W b (fun _ => True) (.slice A bl.length c) bl := ⟨fun _ _ => trivial, _, h, reps58_mk W b bl⟩
  exact ⟨rfl, (Kd.R_reads' r1).2.1, (Kd.R_reads' r1).2.2⟩
end Go.Proofs.Ytoefligelajfkaa.Own

namespace Go.Proofs.Ytoefligelajfkaa.Block
open Go.RowKit Go.Proofs.YtoefligelajfkaaW.PrintWords Go.Proofs.YtoefligelajfkaaW.PrintLast Go.Proofs.YtoefligelajfkaaW.PrintMore Go.Proofs.Ytoefligelajfkaa.Press

/-- The desk: its block holds a slice of bytes of the law's own. -/
structure DInv (w0 : World) (gd : Nat) (W : World) (vb : Value) (B : List Int) : Prop where
  blk : W.heap[gd]? = some (.cells #[vb] 45 (0, 0))
  row : Kd.R (Kd.int .u8) 5 W w0.heap.size (fun _ => True) vb B
  bel : Below w0.heap.size w0 W
  old : w0.heap.size ≤ gd
theorem DInv.step {w0 : World} {gd : Nat} {W W1 : World} {vb : Value} {B : List Int} (h : DInv w0 gd W vb B) (hb : Below W.heap.size W W1) : DInv w0 gd W1 vb B :=
  ⟨blk_below h.blk hb, Kd.R_below h.row hb, below_step h.bel hb, h.old⟩
theorem DInv.ne {w0 : World} {gd g n k : Nat} {W : World} {B : List Int} (h : DInv w0 gd W (.slice (some ⟨g, 0, none⟩) n k) B) : gd ≠ g := by
  intro e
  subst e
  exact ne_block h.row h.blk (by decide) rfl
theorem DInv.put {w0 : World} {gd g n k : Nat} {W : World} {B : List Int} (h : DInv w0 gd W (.slice (some ⟨g, 0, none⟩) n k) B) (i : Nat) (x : Int) : DInv w0 gd (W.setCell ⟨g, i, none⟩ (.int .u8 x)) (.slice (some ⟨g, 0, none⟩) n k) (B.set i x) := by
  have hp := Kd.R_putn (enc := Value.int .u8) (h1 := fun _ => rfl) h.row (i : Int) x
  simp only [Int.toNat_natCast] at hp
  exact ⟨blk_far h.blk (p := ⟨g, i, none⟩) h.ne _, hp, h.bel.setCell (p := ⟨g, i, none⟩) (Kd.R_base h.row g rfl) _, h.old⟩
theorem DInv.grown {w0 : World} {gd g n k : Nat} {W W1 : World} {B B1 : List Int} (h : DInv w0 gd W (.slice (some ⟨g, 0, none⟩) n k) B) (hg : W.grownBy W1 (Value.slice (some ⟨g, 0, none⟩) n k).ownBlock)
    (hr : Kd.R (Kd.int .u8) 5 W1 w0.heap.size (fun _ => True) (.slice (some ⟨g, 0, none⟩) n k) B1) (hb : Below w0.heap.size w0 W1) : DInv w0 gd W1 (.slice (some ⟨g, 0, none⟩) n k) B1 :=
  ⟨blk_grown h.blk hg (by simp [Value.ownBlock]; exact h.ne), hr, hb, h.old⟩
theorem DInv.new {w0 : World} {gd : Nat} {W W1 : World} {vb v : Value} {B B1 : List Int} (h : DInv w0 gd W vb B) (hg : W.grownBy W1 none) (hr : Kd.R (Kd.int .u8) 5 W1 w0.heap.size (fun _ => True) v B1) (hb : Below w0.heap.size w0 W1) :
    W1.heap[gd]? = some (.cells #[vb] 45 (0, 0)) ∧ DInv w0 gd (W1.setCell ⟨gd, 0, none⟩ v) v B1 := by
  have hb1 : W1.heap[gd]? = some (.cells #[vb] 45 (0, 0)) := blk_grown h.blk hg (by simp)
  refine ⟨hb1, one_setCell hb1, ?_, hb.setCell (p := ⟨gd, 0, none⟩) h.old _, h.old⟩
  exact R_kept (row := some gd) hr (grown_set _ _ _ _) (by
    cases e : v.ownBlock with
    | none => exact .inl rfl
    | some q => exact .inr (fun he => ne_block hr hb1 (by decide) (by rw [e]; exact he)))

/-- What a lay may have written: the desk's block, the row that lay there, and new memory. -/
structure Kp (W W1 : World) (gd : Nat) (v0 : Value) : Prop where
  size : W.heap.size ≤ W1.heap.size
  keep : ∀ k, k < W.heap.size → k ≠ gd → some k ≠ v0.ownBlock → W1.heap[k]? = W.heap[k]?
theorem Kp.refl (W : World) (gd : Nat) (v0 : Value) : Kp W W gd v0 := ⟨Nat.le_refl _, fun _ _ _ _ => rfl⟩
theorem Kp.grown {W W1 W2 : World} {gd : Nat} {v0 : Value} {row : Option Nat} (h : Kp W W1 gd v0) (hg : W1.grownBy W2 row) (hr : ∀ k, row = some k → k = gd ∨ some k = v0.ownBlock ∨ W.heap.size ≤ k) : Kp W W2 gd v0 :=
  ⟨Nat.le_trans h.size hg.size, fun k hk h1 h2 => by
    rw [← h.keep k hk h1 h2]
    refine hg.block k (Nat.lt_of_lt_of_le hk h.size) (fun e => ?_)
    rcases hr k e.symm with h3 | h3 | h3
    · exact h1 h3
    · exact h2 h3
    · omega⟩
theorem Kp.set {W W1 : World} {gd : Nat} {v0 : Value} (h : Kp W W1 gd v0) {g : Nat} (hg : g = gd ∨ some g = v0.ownBlock ∨ W.heap.size ≤ g) (j : Nat) (u : Value) : Kp W (W1.setCell ⟨g, j, none⟩ u) gd v0 :=
  h.grown (grown_set W1 g j u) (fun k e => by cases e; exact hg)
theorem Kp.below {W W1 W2 : World} {gd : Nat} {v0 : Value} (h : Kp W W1 gd v0) (hb : Below W1.heap.size W1 W2) : Kp W W2 gd v0 :=
  ⟨Nat.le_trans h.size hb.size, fun k hk h1 h2 => (hb.block k (Nat.lt_of_lt_of_le hk h.size)).trans (h.keep k hk h1 h2)⟩
/-- Where a row lies behind a lay. -/
def At (W : World) (v0 v : Value) : Prop := ∀ k, v.ownBlock = some k → some k = v0.ownBlock ∨ W.heap.size ≤ k

/-- So many bytes of the desk are marked. -/
def markD (B : List Int) (i : Nat) : List Int := List.replicate i 171 ++ B.drop i
theorem markD_length (B : List Int) (i : Nat) (h : i ≤ B.length) : (markD B i).length = B.length := by simp [markD]; omega
theorem markD_set (B : List Int) (i : Nat) (h : i < B.length) : (markD B i).set i 171 = markD B (i + 1) := by
  rw [markD, markD, List.set_append_right _ _ (by simp), List.length_replicate, Nat.sub_self, List.drop_eq_getElem_cons h, List.set_cons_zero, List.replicate_succ', List.append_assoc]
  rfl
def deskS (data : List Int) (n : Nat) : List Int := data ++ List.replicate (n - data.length) 171

set_option maxHeartbeats 4000000 in
theorem desk_lay_any (w0 : World) (gd : Nat) (W : World) (vb : Value) (B : List Int) (A : Option Addr) (c : Nat) (data : List Int) (hI : DInv w0 gd W vb B) (hC : Kd.C (Kd.int .u8) w0 A data.length data) (hd : data.length ≤ 300000) (hB : B.length ≤ 1000000) :
    Calls Try.prog 32 #[.pointer (some ⟨gd, 0, none⟩), .slice A data.length c] W fun e w' => ∃ g k n, e = .returned (.slice (some ⟨g, 0, none⟩) data.length k) ∧ data.length + 5 ≤ n ∧ n ≤ 1000000 ∧ DInv w0 gd w' (.slice (some ⟨g, 0, none⟩) n k) (deskS data n) ∧ Kp W w' gd vb ∧ At W vb (.slice (some ⟨g, 0, none⟩) n k) := by
  have HI := Aside0.mk hI
  have HC := Aside0.mk hC
  obtain ⟨v0, hv0⟩ : ∃ v0, vb = v0 := ⟨_, rfl⟩
  have HV0 := Aside0.mk hv0
  rw [hv0]
  clear hv0
  obtain ⟨Ab, kb, rfl⟩ := Kd.R_slice hI.row
  have hc0 := cell_of_one hI.blk
  have hf0 := free_of_one hI.blk
  clear hI hC
  obtain ⟨N, hN⟩ : ∃ N, 2 * data.length + 40 = N := ⟨_, rfl⟩
  have hN1 : 2 * (data.length : Int) + 40 = (N : Int) := by omega
  have hN2 : N ≤ 700000 := by omega
  have hN3 : data.length + 5 ≤ N := by omega
  clear hN
  go_enter Try.func32, Try.ntmps32
  go_upto_if 14 with (fail)
  go_cut [15, 16, 17, 18, 19, 20, 21, 22] (fun _ _ _ _ _ _ _ _ wc => ∃ (vb : Value) (B : List Int), data.length + 5 ≤ B.length ∧ B.length ≤ 1000000 ∧ Aside0 (DInv w0 gd wc vb B ∧ Kp W wc gd v0 ∧ At W v0 vb))
  case first =>
    by_cases hs : B.length < data.length + 5
    · have hs1 : (B.length : Int) < (data.length : Int) + 5 := by omega
      go_wp2_with (at_make; go_loud (refine Kd.R_make (Kd.int .u8) (w0 := w0) w0.heap.size 5 rfl rfl 22 _ _ rfl (N : Int) rfl rfl Try.underlying22 (.int .u8 0) 1 info5 rfl (by decide) (by omega) 0 (ok := fun _ => True) (okp := fun _ => False) rfl (fun _ _ => trivial) trivial (by omega) (by simp; omega) HI.out.bel HI.out.bel.size ?_); intro v2 w2 ho2 hb2 hg2 hat2; rw [Int.toNat_natCast] at ho2; obtain ⟨A2, k2, e2⟩ := Kd.R_slice ho2; rw [List.length_replicate] at e2; subst e2; have HD2 := Aside0.mk (HI.out.new hg2 ho2 hb2); have hc2 := cell_of_one HD2.out.1; have hf2 := free_of_one HD2.out.1; have HK2 : Aside0 (Kp W (w2.setCell ⟨gd, 0, none⟩ (.slice A2 N k2)) gd v0 ∧ At W v0 (.slice A2 N k2)) := ⟨((Kp.refl W gd v0).grown hg2 (fun _ e => by cases e)).set (.inl rfl) _ _, fun k hk => by obtain ⟨b, hb, hb'⟩ := hat2; rw [hb] at hk; injection hk with hk; exact .inr (by omega)⟩)
      go_meet
      case rel => exact ⟨_, _, by simp; omega, by simp; omega, ⟨HD2.out.2, HK2.out⟩⟩
    · have hs1 : decide ((B.length : Int) < (data.length : Int) + 5) = false := by simp; omega
      go_wp2
      go_meet
      case rel => exact ⟨_, B, by omega, hB, ⟨HI.out, Kp.refl _ _ _, fun k hk => .inl (by rw [← HV0.out]; exact hk.symm)⟩⟩
  case rest =>
    obtain ⟨vb, B, hb5, hb6, HI3⟩ := hcut
    have HI := Aside0.mk HI3.out.1
    obtain ⟨A1, k1, rfl⟩ := Kd.R_slice HI.out.row
    obtain ⟨g, k, e1, hgb, -, -⟩ := Kd.R_form HI.out.row (by omega)
    injection e1 with e1 _ e3
    subst e1 e3
    obtain ⟨n, hn⟩ : ∃ n, B.length = n := ⟨_, rfl⟩
    rw [hn] at HI hb5 hb6
    have HN := Aside0.mk hn
    have hk := (Kd.R_reads' HI.out.row).2.1
    have HG : Aside0 (g = gd ∨ some g = v0.ownBlock ∨ W.heap.size ≤ g) := ⟨.inr (HI3.out.2.2 g rfl)⟩
    have HAT := Aside0.mk HI3.out.2.2
    have HK0 := Aside0.mk HI3.out.2.1
    clear hc0 hf0 hn hN1 hN2 hN3 hB HI3
    go_wp2_with fail
    go_loopg [5] n (fun k' v5 w' => ∃ i : Nat, v5 = .int .i64 i ∧ i + k' = n ∧ Aside0 (DInv w0 gd w' (.slice (some ⟨g, 0, none⟩) n k1) (markD B i)) ∧ Aside0 (Kp W w' gd v0))
    case atStart => exact ⟨0, rfl, by omega, HI, HK0⟩
    case round =>
      clear HI HK0
      obtain ⟨i, rfl, hik, HI, HK⟩ := hrel
      have hc1 := cell_of_one HI.out.blk
      have hf1 := free_of_one HI.out.blk
      cases gk with
      | zero =>
        have hi : i = n := by omega
        subst hi
        have hm : markD B i = List.replicate i 171 := by rw [markD, List.drop_eq_nil_of_le (by have := HN.out; omega), List.append_nil]
        have hr := HI.out.row
        rw [hm] at hr
        have HR := Aside0.mk hr
        have hn3 : (data.length : Int) ≤ (k1 : Int) := by omega
        have HFIN : Aside0 (data.take (min data.length (List.replicate i (171 : Int)).length) ++ (List.replicate i (171 : Int)).drop (min data.length (List.replicate i (171 : Int)).length) = deskS data i) := ⟨by
          rw [List.length_replicate, Nat.min_eq_left (by omega), List.take_length, List.drop_replicate, deskS]⟩
        clear hm hr hik
        go_wp2_with ((with_reducible refine gate_builtin (b := .copy) (xs := #[.tmp 41, .tmp 42]) rfl ?_); go_loud (refine Kd.R_copy (0 : Int) (w0 := w0) w0.heap.size rfl (.tmp 41) (.tmp 42) 22 22 5 rfl Try.underlying22 (by kernel_rfl) (.slice (some ⟨g, 0, none⟩) i k1) (List.replicate i 171) data A data.length c (fun _ => True) rfl rfl HR.out (Kd.C_below HC.out HI.out.bel) HI.out.bel HI.out.bel.size ?_); intro w3 ho3 hb3 hg3; rw [HFIN.out] at ho3; have H3 := Aside0.mk (HI.out.grown hg3 ho3 hb3); have HK3 := Aside0.mk (HK.out.grown hg3 (fun k e => by simp [Value.ownBlock] at e; subst e; exact HG.out)); have hc3 := cell_of_one H3.out.blk; clear ho3 hb3 hg3)
        go_ret
        exact ⟨g, k1, i, rfl, hb5, hb6, H3.out, HK3.out, HAT.out⟩
      | succ k' =>
        have hi : i < n := by omega
        have hi1 : (i : Int) < (n : Int) := by omega
        obtain ⟨hx, hz⟩ := Kd.R_celln (0 : Int) HI.out.row (i : Int) (by omega) (by omega)
        simp only [Int.toNat_natCast] at hx hz
        have hN := HI.out.put i 171
        rw [markD_set B i (by rw [HN.out]; exact hi)] at hN
        have HNX := Aside0.mk hN
        have HKX := Aside0.mk (HK.out.set HG.out i (.int .u8 171))
        generalize rdOf 0 (markD B i) (i : Int) = z at hx
        clear hN
        go_wp2
        go_roundg k'
        case measure => omega
        case rel => exact ⟨i + 1, by go_num, by omega, HNX, HKX⟩

set_option maxHeartbeats 4000000 in
theorem desk_lies_any (w0 : World) (gd : Nat) (W : World) (g n k : Nat) (A : Option Addr) (c : Nat) (data : List Int) (hI : DInv w0 gd W (.slice (some ⟨g, 0, none⟩) n k) (deskS data n)) (hC : Kd.C (Kd.int .u8) w0 A data.length data) (hd : data.length ≤ n) (hn : n ≤ 1000000) :
    Calls Try.prog 33 #[.pointer (some ⟨gd, 0, none⟩), .slice A data.length c] W fun e w' => e = .returned (.bool true) ∧ Drawn0 W w' := by
  have HI := Aside0.mk hI
  have HC := Aside0.mk hC
  clear hI hC
  go_enter Try.func33, Try.ntmps33
  go_wp2
  go_loopg [5] n (fun k' v5 w' => ∃ i : Nat, v5 = .int .i64 i ∧ i + k' = n ∧ Aside0 (Drawn0 W w'))
  case atStart => exact ⟨0, rfl, by omega, ⟨Drawn0.refl _⟩⟩
  case round =>
    obtain ⟨i, rfl, hik, HD⟩ := hrel
    have HJ := Aside0.mk (HI.out.step HD.out.below)
    have hc1 := cell_of_one HJ.out.blk
    cases gk with
    | zero =>
      have hi : i = n := by omega
      subst hi
      go_wp2
      go_ret
      exact ⟨rfl, HD.out⟩
    | succ k' =>
      have hi : i < n := by omega
      have hi1 : (i : Int) < (n : Int) := by omega
      obtain ⟨hx, hz⟩ := Kd.R_celln (0 : Int) HJ.out.row (i : Int) (by omega) (by omega)
      simp only [Int.toNat_natCast] at hx hz
      by_cases hl : i < data.length
      · have hl1 : (i : Int) < (data.length : Int) := by omega
        have d1 : decide (i < data.length) = true := by simp; omega
        have d2 : decide ((i : Int) < (data.length : Int)) = true := by simp; omega
        have d3 : decide (data.length ≤ i) = false := by simp; omega
        have d4 : decide ((data.length : Int) ≤ (i : Int)) = false := by simp; omega
        obtain ⟨ad, e, hy⟩ := Kd.at_int (Kd.C_below HC.out HJ.out.bel) (i : Int) (by omega) (by omega)
        cases e
        simp only [Int.toNat_natCast] at hy
        have hxy : rdOf 0 (deskS data n) (i : Int) = rd data (i : Int) := by
          rw [rdOf, rd, Int.toNat_natCast, deskS, List.getD_eq_getElem?_getD, List.getD_eq_getElem?_getD, List.getElem?_append_left hl]
        rw [hxy] at hx
        generalize rd data (i : Int) = x at hx hy
        clear hxy
        go_wp2
        go_quiet (fail)
        go_wp2
        go_roundg k'
        case measure => omega
        case rel => exact ⟨i + 1, by go_num, by omega, ⟨HD.out.step _⟩⟩
      · have d1 : decide (i < data.length) = false := by simp; omega
        have d2 : decide ((i : Int) < (data.length : Int)) = false := by simp; omega
        have d3 : decide (data.length ≤ i) = true := by simp; omega
        have d4 : decide ((data.length : Int) ≤ (i : Int)) = true := by simp; omega
        have hxy : rdOf 0 (deskS data n) (i : Int) = 171 := by
          rw [rdOf, Int.toNat_natCast, deskS, List.getD_eq_getElem?_getD, List.getElem?_append_right (by omega), List.getElem?_replicate, if_pos (by omega)]; rfl
        rw [hxy] at hx
        clear hxy
        go_wp2
        go_quiet (fail)
        go_wp2
        go_roundg k'
        case measure => omega
        case rel => exact ⟨i + 1, by go_num, by omega, ⟨HD.out.step _⟩⟩
end Go.Proofs.Ytoefligelajfkaa.Block

namespace Go.Proofs.Ytoefligelajfkaa.PPressSpoilt
open Go.RowKit Go.Proofs.YtoefligelajfkaaW.PrintWords Go.Proofs.YtoefligelajfkaaW.PrintLast Go.Proofs.YtoefligelajfkaaW.PrintMore
attribute [local go_sem] max2_int min2_int max_two min_two max_three min_three max_four min_four   -- for this text's walks alone
set_option linter.unusedVariables false
set_option linter.unusedSimpArgs false

/-! ### freightref4_alike: function 57 -/
def freightref4_alike.l0 : Nat → List Int → Int → Int → Int → Option (Int)
  | 0, _, _, _, _ => none
  | k + 1, x0, x1, x2, x7 => if x7 < 66 then (if (wrap64 (x2 + x7)) < (x0.length : Int) then (if 0 ≤ (wrap64 (x1 + x7)) then (if (wrap64 (x1 + x7)) < (x0.length : Int) then (if 0 ≤ (wrap64 (x2 + x7)) then (if (rd x0 (wrap64 (x1 + x7))) = (rd x0 (wrap64 (x2 + x7))) then (freightref4_alike.l0 k x0 x1 x2 (wrap64 (x7 + 1))) else (some x7)) else (none)) else (none)) else (none)) else (some x7)) else (some x7)
def freightref4_alike.f (k : Nat) (l0 : List Int) (a1 : Int) (a2 : Int) : Option (Int) := freightref4_alike.l0 k l0 a1 a2 0
theorem freightref4_alike.mono_l : ∀ k, (∀ y0 y1 y2 y3, LeO (freightref4_alike.l0 k y0 y1 y2 y3) (freightref4_alike.l0 (k + 1) y0 y1 y2 y3))
  | 0 => fun _ _ _ _ r h => by simp [freightref4_alike.l0] at h
  | k + 1 => by
    have ih0 := freightref4_alike.mono_l k
    · intro y0 y1 y2 y3
      unfold freightref4_alike.l0
      repeat' first
      | (with_reducible exact ih0 _ _ _ _)
      | (with_reducible exact LeO.refl _)
      | (with_reducible exact LeO.none _)
      | (with_reducible refine LeO.ite ?_ ?_)
      | (with_reducible refine LeO.bind ?_ (fun _ => ?_))
      | exact ih0 _ _ _ _
      | exact LeO.none _
      | refine LeO.ite ?_ ?_
      | refine LeO.bind ?_ (fun _ => ?_)
theorem freightref4_alike.mono : ∀ a0 a1 a2 k, LeO (freightref4_alike.f k a0 a1 a2) (freightref4_alike.f (k + 1) a0 a1 a2) := by
  intro a0 a1 a2 k
  have ih0 := freightref4_alike.mono_l k
  unfold freightref4_alike.f
  repeat' first
      | (with_reducible exact ih0 _ _ _ _)
      | (with_reducible exact LeO.refl _)
      | (with_reducible exact LeO.none _)
      | (with_reducible refine LeO.ite ?_ ?_)
      | (with_reducible refine LeO.bind ?_ (fun _ => ?_))
      | exact ih0 _ _ _ _
      | exact LeO.none _
      | refine LeO.ite ?_ ?_
      | refine LeO.bind ?_ (fun _ => ?_)
set_option maxHeartbeats 8000000 in
set_option maxRecDepth 100000 in
theorem freightref4_alike.calls (k : Nat) (A0 : Option Addr) (c0 : Nat) (l0 : List Int) (a1 : Int) (a2 : Int) (r : Int) (w : World) (hr0 : Kd.C (Kd.int .u8) w A0 l0.length l0) (hc0 : l0.length ≤ c0) (h : freightref4_alike.f k l0 a1 a2 = some r) :
    Calls Try.prog 57 #[.slice A0 l0.length c0, .int .i64 a1, .int .i64 a2] w fun e w' => e = .returned (.int .i64 r) ∧ Drawn0 w w' := by
  have HR0 := Aside0.mk hr0
  have HC0 := Aside0.mk hc0
  clear hr0 hc0
  have H : (freightref4_alike.l0 k l0 a1 a2 0) = some r := h
  clear h
  have H' := Aside0.mk H
  clear H
  go_enter Try.func57, Try.ntmps57
  go_wp2
  repeat (go_quiet (fail); try go_wp2)
  go_loopg [7] k (fun kq v7 w' => ∃ (x7_1 : Int), v7 = .int .i64 x7_1 ∧ Aside0 (freightref4_alike.l0 kq l0 a1 a2 x7_1 = some r) ∧ Aside0 (kq ≤ k) ∧ Drawn0 w w')
  case atStart => exact ⟨(0), (by first | rfl | (simp; done) | (simp [*]; done)), H', ⟨Nat.le_refl _⟩, by repeat (first | exact Drawn0.refl _ | apply Drawn0.step)⟩
  case round =>
    clear H'
    try clear p2
    obtain ⟨x7_1, rfl, HA, HK1, ⟨m1, rfl⟩⟩ := hrel
    cases gk with
    | zero => exact absurd HA.out (by simp [freightref4_alike.l0])
    | succ k1 =>
      have H := HA.out
      clear HA
      simp only [freightref4_alike.l0] at H
      by_cases c4 : x7_1 < 66
      · rw [if_pos c4] at H
        have c4b0 : decide (x7_1 < 66) = true := decide_eq_true c4
        clear c4
        by_cases c5 : (wrap64 (a2 + x7_1)) < (l0.length : Int)
        · rw [if_pos c5] at H
          have c5b0 : decide ((wrap64 (a2 + x7_1)) < (l0.length : Int)) = true := decide_eq_true c5
          clear c5
          obtain ⟨ji6, hji6⟩ : ∃ j_ : Int, (wrap64 (a1 + x7_1)) = j_ := ⟨_, rfl⟩
          replace H : (if 0 ≤ (ji6) then (if (ji6) < (l0.length : Int) then (if 0 ≤ (wrap64 (a2 + x7_1)) then (if (rd l0 (ji6)) = (rd l0 (wrap64 (a2 + x7_1))) then (freightref4_alike.l0 k1 l0 a1 a2 (wrap64 (x7_1 + 1))) else (some x7_1)) else (none)) else (none)) else (none)) = some r := by first | (rw [hji6] at H; exact H) | (simp only [hji6] at H ⊢; exact H)
          have hji6w : (IntKind.i64.wrap (a1 + x7_1)) = ji6 := (i64_w _).trans hji6
          by_cases c7 : 0 ≤ (ji6)
          · rw [if_pos c7] at H
            have c7b0 : decide (0 ≤ (ji6)) = true := decide_eq_true c7
            clear c7
            by_cases c8 : (ji6) < (l0.length : Int)
            · rw [if_pos c8] at H
              have c8b0 : decide ((ji6) < (l0.length : Int)) = true := decide_eq_true c8
              clear c8
              obtain ⟨ji9, hji9⟩ : ∃ j_ : Int, (wrap64 (a2 + x7_1)) = j_ := ⟨_, rfl⟩
              replace H : (if 0 ≤ (ji9) then (if (rd l0 (ji6)) = (rd l0 (ji9)) then (freightref4_alike.l0 k1 l0 a1 a2 (wrap64 (x7_1 + 1))) else (some x7_1)) else (none)) = some r := by first | (rw [hji9] at H; exact H) | (simp only [hji9] at H ⊢; exact H)
              (try rw [hji9] at c5b0)
              have hji9w : (IntKind.i64.wrap (a2 + x7_1)) = ji9 := (i64_w _).trans hji9
              by_cases c10 : 0 ≤ (ji9)
              · rw [if_pos c10] at H
                have c10b0 : decide (0 ≤ (ji9)) = true := decide_eq_true c10
                clear c10
                by_cases c11 : (rd l0 (ji6)) = (rd l0 (ji9))
                · rw [if_pos c11] at H
                  have c11b0 : ((rd l0 (ji6)) == (rd l0 (ji9))) = true := beq_iff_eq.mpr c11
                  have c11b1 : ((rd l0 (ji6)) != (rd l0 (ji9))) = false := bne_eq_false_iff_eq.mpr c11
                  clear c11
                  have H' := Aside0.mk H
                  clear H
                  have p101 : 0 ≤ ((ji6) : Int) := of_decide_eq_true (by first | (with_reducible assumption) | assumption)
                  have q101 : (ji6) < (l0.length : Int) := of_decide_eq_true (by first | (with_reducible assumption) | assumption)
                  obtain ⟨ad101, e101, hx101_0⟩ := Kd.at_int HR0.out (ji6) p101 q101
                  cases e101
                  replace p101 := eq_true p101
                  replace q101 := eq_true q101
                  have p102 : 0 ≤ ((ji9) : Int) := of_decide_eq_true (by first | (with_reducible assumption) | assumption)
                  have q102 : (ji9) < (l0.length : Int) := of_decide_eq_true (by first | (with_reducible assumption) | assumption)
                  obtain ⟨ad102, e102, hx102_0⟩ := Kd.at_int HR0.out (ji9) p102 q102
                  obtain rfl : ad101 = ad102 := (by injection e102)
                  replace p102 := eq_true p102
                  replace q102 := eq_true q102
                  go_wp2
                  repeat (go_quiet (fail); try go_wp2)
                  go_roundg k1
                  case measure => have := HK1.out; omega
                  case rel => exact ⟨(wrap64 (x7_1 + 1)), (by first | rfl | (simp; done) | (simp [*]; done)), H', ⟨by have := HK1.out; omega⟩, by repeat (first | exact Drawn0.refl _ | apply Drawn0.step)⟩
                · rw [if_neg c11] at H
                  have c11b0 : ((rd l0 (ji6)) == (rd l0 (ji9))) = false := beq_eq_false_iff_ne.mpr c11
                  have c11b1 : ((rd l0 (ji6)) != (rd l0 (ji9))) = true := bne_iff_ne.mpr c11
                  obtain rfl := Option.some.inj H
                  have p101 : 0 ≤ ((ji6) : Int) := of_decide_eq_true (by first | (with_reducible assumption) | assumption)
                  have q101 : (ji6) < (l0.length : Int) := of_decide_eq_true (by first | (with_reducible assumption) | assumption)
                  obtain ⟨ad101, e101, hx101_0⟩ := Kd.at_int HR0.out (ji6) p101 q101
                  cases e101
                  replace p101 := eq_true p101
                  replace q101 := eq_true q101
                  have p102 : 0 ≤ ((ji9) : Int) := of_decide_eq_true (by first | (with_reducible assumption) | assumption)
                  have q102 : (ji9) < (l0.length : Int) := of_decide_eq_true (by first | (with_reducible assumption) | assumption)
                  obtain ⟨ad102, e102, hx102_0⟩ := Kd.at_int HR0.out (ji9) p102 q102
                  obtain rfl : ad101 = ad102 := (by injection e102)
                  replace p102 := eq_true p102
                  replace q102 := eq_true q102
                  go_wp2
                  repeat (go_quiet (fail); try go_wp2)
                  go_ret
                  exact ⟨by first | rfl | (simp; done) | (simp only [← hji6, ← hji9] <;> (first | rfl | simp)) | (simp [*]; done), by repeat (first | exact Drawn0.refl _ | apply Drawn0.step)⟩
              · rw [if_neg c10] at H
                exact absurd H (by simp)
            · rw [if_neg c8] at H
              exact absurd H (by simp)
          · rw [if_neg c7] at H
            exact absurd H (by simp)
        · rw [if_neg c5] at H
          have c5b0 : decide ((wrap64 (a2 + x7_1)) < (l0.length : Int)) = false := decide_eq_false c5
          clear c5
          obtain rfl := Option.some.inj H
          go_wp2
          repeat (go_quiet (fail); try go_wp2)
          go_ret
          exact ⟨by first | rfl | (simp; done) | (simp [*]; done), by repeat (first | exact Drawn0.refl _ | apply Drawn0.step)⟩
      · rw [if_neg c4] at H
        have c4b0 : decide (x7_1 < 66) = false := decide_eq_false c4
        clear c4
        obtain rfl := Option.some.inj H
        go_wp2
        repeat (go_quiet (fail); try go_wp2)
        go_ret
        exact ⟨by first | rfl | (simp; done) | (simp [*]; done), by repeat (first | exact Drawn0.refl _ | apply Drawn0.step)⟩

/-! ### freightref4_match: function 52 -/
mutual
def freightref4_match.l0 : Nat → List Int → Int → Int → Int → Int → Option (Int × Int)
  | 0, _, _, _, _, _ => none
  | k + 1, x0, x1, x6, x7, x8 => if x8 ≤ 1024 then (freightref4_match.j1 k x0 x1 x6 x7 x8 (decide (x8 ≤ x1))) else (freightref4_match.j1 k x0 x1 x6 x7 x8 false)
def freightref4_match.j1 : Nat → List Int → Int → Int → Int → Int → Bool → Option (Int × Int)
  | 0, _, _, _, _, _, _ => none
  | k + 1, x0, x1, x6, x7, x8, x16 => if x16 = true then ((freightref4_alike.f k x0 (wrap64 (x1 - x8)) x1).bind fun t103 => (if t103 > x6 then (freightref4_match.l0 k x0 x1 t103 x8 (wrap64 (x8 + 1))) else (freightref4_match.l0 k x0 x1 x6 x7 (wrap64 (x8 + 1))))) else (some (x6, x7))
end
def freightref4_match.f (k : Nat) (l0 : List Int) (a1 : Int) : Option (Int × Int) := freightref4_match.l0 k l0 a1 0 0 1
theorem freightref4_match.mono_l : ∀ k, (∀ y0 y1 y2 y3 y4, LeO (freightref4_match.l0 k y0 y1 y2 y3 y4) (freightref4_match.l0 (k + 1) y0 y1 y2 y3 y4)) ∧ (∀ y0 y1 y2 y3 y4 y5, LeO (freightref4_match.j1 k y0 y1 y2 y3 y4 y5) (freightref4_match.j1 (k + 1) y0 y1 y2 y3 y4 y5))
  | 0 => ⟨fun _ _ _ _ _ r h => by simp [freightref4_match.l0] at h, fun _ _ _ _ _ _ r h => by simp [freightref4_match.j1] at h⟩
  | k + 1 => by
    obtain ⟨ih0, ih1⟩ := freightref4_match.mono_l k
    refine ⟨?_, ?_⟩
    · intro y0 y1 y2 y3 y4
      unfold freightref4_match.l0
      repeat' first
      | (with_reducible exact ih0 _ _ _ _ _)
      | (with_reducible exact ih1 _ _ _ _ _ _)
      | (with_reducible exact freightref4_alike.mono _ _ _ _)
      | (with_reducible exact LeO.refl _)
      | (with_reducible exact LeO.none _)
      | (with_reducible refine LeO.ite ?_ ?_)
      | (with_reducible refine LeO.bind ?_ (fun _ => ?_))
      | exact ih0 _ _ _ _ _
      | exact ih1 _ _ _ _ _ _
      | exact freightref4_alike.mono _ _ _ _
      | exact LeO.none _
      | refine LeO.ite ?_ ?_
      | refine LeO.bind ?_ (fun _ => ?_)
    · intro y0 y1 y2 y3 y4 y5
      unfold freightref4_match.j1
      repeat' first
      | (with_reducible exact ih0 _ _ _ _ _)
      | (with_reducible exact ih1 _ _ _ _ _ _)
      | (with_reducible exact freightref4_alike.mono _ _ _ _)
      | (with_reducible exact LeO.refl _)
      | (with_reducible exact LeO.none _)
      | (with_reducible refine LeO.ite ?_ ?_)
      | (with_reducible refine LeO.bind ?_ (fun _ => ?_))
      | exact ih0 _ _ _ _ _
      | exact ih1 _ _ _ _ _ _
      | exact freightref4_alike.mono _ _ _ _
      | exact LeO.none _
      | refine LeO.ite ?_ ?_
      | refine LeO.bind ?_ (fun _ => ?_)
theorem freightref4_match.mono : ∀ a0 a1 k, LeO (freightref4_match.f k a0 a1) (freightref4_match.f (k + 1) a0 a1) := by
  intro a0 a1 k
  obtain ⟨ih0, ih1⟩ := freightref4_match.mono_l k
  unfold freightref4_match.f
  repeat' first
      | (with_reducible exact ih0 _ _ _ _ _)
      | (with_reducible exact ih1 _ _ _ _ _ _)
      | (with_reducible exact freightref4_alike.mono _ _ _ _)
      | (with_reducible exact LeO.refl _)
      | (with_reducible exact LeO.none _)
      | (with_reducible refine LeO.ite ?_ ?_)
      | (with_reducible refine LeO.bind ?_ (fun _ => ?_))
      | exact ih0 _ _ _ _ _
      | exact ih1 _ _ _ _ _ _
      | exact freightref4_alike.mono _ _ _ _
      | exact LeO.none _
      | refine LeO.ite ?_ ?_
      | refine LeO.bind ?_ (fun _ => ?_)
set_option maxHeartbeats 8000000 in
set_option maxRecDepth 100000 in
theorem freightref4_match.calls (k : Nat) (A0 : Option Addr) (c0 : Nat) (l0 : List Int) (a1 : Int) (r1 : Int) (r2 : Int) (w : World) (hr0 : Kd.C (Kd.int .u8) w A0 l0.length l0) (hc0 : l0.length ≤ c0) (h : freightref4_match.f k l0 a1 = some (r1, r2)) :
    Calls Try.prog 52 #[.slice A0 l0.length c0, .int .i64 a1] w fun e w' => e = .returned (.tuple #[.int .i64 r1, .int .i64 r2]) ∧ Drawn0 w w' := by
  have HR0 := Aside0.mk hr0
  have HC0 := Aside0.mk hc0
  clear hr0 hc0
  have H : (freightref4_match.l0 k l0 a1 0 0 1) = some (r1, r2) := h
  clear h
  have H' := Aside0.mk H
  clear H
  go_enter Try.func52, Try.ntmps52
  go_wp2
  go_loopg [6, 7, 8] k (fun kq v6 v7 v8 w' => ∃ (x6_1 : Int) (x7_1 : Int) (x8_1 : Int), v6 = .int .i64 x6_1 ∧ v7 = .int .i64 x7_1 ∧ v8 = .int .i64 x8_1 ∧ Aside0 (freightref4_match.l0 kq l0 a1 x6_1 x7_1 x8_1 = some (r1, r2)) ∧ Aside0 (kq ≤ k) ∧ Drawn0 w w')
  case atStart => exact ⟨(0), (0), (1), (by first | rfl | (simp; done) | (simp [*]; done)), (by first | rfl | (simp; done) | (simp [*]; done)), (by first | rfl | (simp; done) | (simp [*]; done)), H', ⟨Nat.le_refl _⟩, by repeat (first | exact Drawn0.refl _ | apply Drawn0.step)⟩
  case round =>
    clear H'
    try clear p2
    obtain ⟨x6_1, x7_1, x8_1, rfl, rfl, rfl, HA, HK1, ⟨m1, rfl⟩⟩ := hrel
    cases gk with
    | zero => exact absurd HA.out (by simp [freightref4_match.l0])
    | succ k1 =>
      have H := HA.out
      clear HA
      simp only [freightref4_match.l0] at H
      have HC3 := Aside0.mk H
      clear H
      go_upto_region 4 with (fail)
      go_cut [16] (fun v16 wc => ∃ (kq : Nat) (x16_2 : Bool), v16 = .bool x16_2 ∧ Aside0 (freightref4_match.j1 kq l0 a1 x6_1 x7_1 x8_1 x16_2 = some (r1, r2)) ∧ Aside0 (kq ≤ k1) ∧ Drawn0 w wc)
      case first =>
        have H := HC3.out
        clear HC3
        by_cases c4 : x8_1 ≤ 1024
        · rw [if_pos c4] at H
          have c4b0 : decide (x8_1 ≤ 1024) = true := decide_eq_true c4
          clear c4
          (first | rw [c4b0] | (simp only [i64_w, i32_w]; rw [c4b0]) | skip)
          have H' := Aside0.mk H
          clear H
          go_wp2
          go_meet
          case rel => exact ⟨_, (decide (x8_1 ≤ a1)), (by first | rfl | (simp; done) | (simp [*]; done)), H', ⟨by have := HK1.out; first | omega | exact Nat.le_refl _⟩, by repeat (first | exact Drawn0.refl _ | apply Drawn0.step)⟩
        · rw [if_neg c4] at H
          have c4b0 : decide (x8_1 ≤ 1024) = false := decide_eq_false c4
          clear c4
          (first | rw [c4b0] | (simp only [i64_w, i32_w]; rw [c4b0]) | skip)
          have H' := Aside0.mk H
          clear H
          go_wp2
          go_meet
          case rel => exact ⟨_, (false), (by first | rfl | (simp; done) | (simp [*]; done)), H', ⟨by have := HK1.out; first | omega | exact Nat.le_refl _⟩, by repeat (first | exact Drawn0.refl _ | apply Drawn0.step)⟩
      case rest =>
        clear HC3
        try clear p2
        try clear c4
        try clear c4b0
        try clear p2
        obtain ⟨kq, x16_2, rfl, HA, HJ2, ⟨mc2, rfl⟩⟩ := hcut
        cases kq with
        | zero => exact absurd HA.out (by simp [freightref4_match.j1])
        | succ kj2 =>
          have H := HA.out
          clear HA
          simp only [freightref4_match.j1] at H
          by_cases c5 : x16_2 = true
          · subst c5
            have H1 : ((freightref4_alike.f kj2 l0 (wrap64 (a1 - x8_1)) a1).bind fun t103 => (if t103 > x6_1 then (freightref4_match.l0 kj2 l0 a1 t103 x8_1 (wrap64 (x8_1 + 1))) else (freightref4_match.l0 kj2 l0 a1 x6_1 x7_1 (wrap64 (x8_1 + 1))))) = some (r1, r2) := by rw [if_pos rfl] at H; exact H
            clear H
            have H := H1
            clear H1
            replace H := Option.bind_eq_some_iff.mp H
            obtain ⟨t103, A60, H⟩ := H
            replace H : (if t103 > x6_1 then (freightref4_match.l0 kj2 l0 a1 t103 x8_1 (wrap64 (x8_1 + 1))) else (freightref4_match.l0 kj2 l0 a1 x6_1 x7_1 (wrap64 (x8_1 + 1)))) = some (r1, r2) := H
            have A6 := Aside0.mk A60
            clear A60
            by_cases c7 : t103 > x6_1
            · rw [if_pos c7] at H
              have c7b0 : decide (x6_1 < t103) = true := decide_eq_true c7
              clear c7
              have H' := Aside0.mk H
              clear H
              go_wp2_with (first | ((with_reducible refine gate_callee (f := 57) rfl ?_); refine goesL_ (some 24) rfl rfl Try.func57 (by kernel_rfl) rfl #[.slice A0 l0.length c0, .int .i64 (wrap64 (a1 - x8_1)), .int .i64 a1] rfl (by (try simp only [List.map_toArray, List.map_cons, List.map_nil]); first | done | rfl | (simp only [List.length_drop, List.length_take]; rfl)) ?_; (with_reducible refine (freightref4_alike.calls kj2 _ _ l0 (wrap64 (a1 - x8_1)) a1 t103 _ ?side1 ?side2 A6.out).mono ?_); (case side1 => repeat (first | exact HR0.out | (with_reducible refine Kd.C_alloc ?_ _) | (with_reducible refine Kd.C_drewN ?_ _) | (with_reducible refine Kd.C_drew ?_))); (case side2 => exact HC0.out); rintro e w' ⟨rfl, ⟨nd, rfl⟩⟩; refine ⟨_, rfl, ?_⟩))
              go_roundg kj2
              case measure => have := HK1.out; have := HJ2.out; omega
              case rel => exact ⟨(t103), (x8_1), (wrap64 (x8_1 + 1)), (by first | rfl | (simp; done) | (simp [*]; done)), (by first | rfl | (simp; done) | (simp [*]; done)), (by first | rfl | (simp; done) | (simp [*]; done)), H', ⟨by have := HK1.out; have := HJ2.out; omega⟩, by repeat (first | exact Drawn0.refl _ | apply Drawn0.step)⟩
            · rw [if_neg c7] at H
              have c7b0 : decide (x6_1 < t103) = false := decide_eq_false c7
              clear c7
              have H' := Aside0.mk H
              clear H
              go_wp2_with (first | ((with_reducible refine gate_callee (f := 57) rfl ?_); refine goesL_ (some 24) rfl rfl Try.func57 (by kernel_rfl) rfl #[.slice A0 l0.length c0, .int .i64 (wrap64 (a1 - x8_1)), .int .i64 a1] rfl (by (try simp only [List.map_toArray, List.map_cons, List.map_nil]); first | done | rfl | (simp only [List.length_drop, List.length_take]; rfl)) ?_; (with_reducible refine (freightref4_alike.calls kj2 _ _ l0 (wrap64 (a1 - x8_1)) a1 t103 _ ?side1 ?side2 A6.out).mono ?_); (case side1 => repeat (first | exact HR0.out | (with_reducible refine Kd.C_alloc ?_ _) | (with_reducible refine Kd.C_drewN ?_ _) | (with_reducible refine Kd.C_drew ?_))); (case side2 => exact HC0.out); rintro e w' ⟨rfl, ⟨nd, rfl⟩⟩; refine ⟨_, rfl, ?_⟩))
              go_roundg kj2
              case measure => have := HK1.out; have := HJ2.out; omega
              case rel => exact ⟨(x6_1), (x7_1), (wrap64 (x8_1 + 1)), (by first | rfl | (simp; done) | (simp [*]; done)), (by first | rfl | (simp; done) | (simp [*]; done)), (by first | rfl | (simp; done) | (simp [*]; done)), H', ⟨by have := HK1.out; have := HJ2.out; omega⟩, by repeat (first | exact Drawn0.refl _ | apply Drawn0.step)⟩
          · replace c5 := Bool.eq_false_iff.mpr c5
            subst c5
            have H1 : (some (x6_1, x7_1)) = some (r1, r2) := by rw [if_neg (show ¬ (false = true) by decide)] at H; exact H
            clear H
            have H := H1
            clear H1
            simp only [Option.some.injEq, Prod.mk.injEq] at H
            obtain ⟨rfl, rfl⟩ := H
            go_wp2
            go_ret2
            exact ⟨by first | rfl | (simp; done) | (simp [*]; done), by repeat (first | exact Drawn0.refl _ | apply Drawn0.step)⟩

end Go.Proofs.Ytoefligelajfkaa.PPressSpoilt

namespace Go.Proofs.Ytoefligelajfkaa.Press

/-- How many bytes are alike at a distance. -/
def al (l : List Int) (at_ d : Nat) : Nat := grow l (at_ - d) at_ (min 66 (l.length - at_)) (min 66 (l.length - at_)) 0

/-- The greatest length and the least distance up to k. -/
def bst (l : List Int) (at_ : Nat) : Nat → Nat × Nat
  | 0 => (0, 0)
  | k + 1 => if (bst l at_ k).1 < al l at_ (k + 1) then (al l at_ (k + 1), k + 1) else bst l at_ k

theorem bst_succ (l : List Int) (at_ k : Nat) : bst l at_ (k + 1) = if (bst l at_ k).1 < al l at_ (k + 1) then (al l at_ (k + 1), k + 1) else bst l at_ k := rfl

def cutB (r : Nat × Nat) : Nat × Nat := if 3 ≤ r.1 then r else (0, 0)

theorem al_le (l : List Int) (at_ d : Nat) : al l at_ d ≤ min 66 (l.length - at_) := (grow_le _ _ _ _ _ _ (Nat.zero_le _)).1
theorem bst_le (l : List Int) (at_ : Nat) : ∀ k, (bst l at_ k).1 ≤ min 66 (l.length - at_) := by
  intro k
  induction k with
  | zero => exact Nat.zero_le _
  | succ k ih =>
    rw [bst_succ]
    split
    · exact al_le _ _ _
    · exact ih
theorem bst_stay (l : List Int) (at_ k : Nat) (h : (bst l at_ k).1 = min 66 (l.length - at_)) : ∀ j, bst l at_ (k + j) = bst l at_ k := by
  intro j
  induction j with
  | zero => rfl
  | succ j ih =>
    show bst l at_ (k + j + 1) = _
    rw [bst_succ, ih, if_neg (by rw [h]; have := al_le l at_ (k + j + 1); omega)]

theorem al_gram (l : List Int) (at_ d : Nat) (h3 : 3 ≤ min 66 (l.length - at_)) (hg : gramEq l (at_ - d) at_ = true) : al l at_ d = grow l (at_ - d) at_ (min 66 (l.length - at_)) (min 66 (l.length - at_) - 3) 3 := by
  unfold al
  generalize min 66 (l.length - at_) = m at h3
  obtain ⟨k, rfl⟩ : ∃ k, m = k + 3 := ⟨m - 3, by omega⟩
  unfold gramEq at hg
  simp only [Bool.and_eq_true, decide_eq_true_eq] at hg
  obtain ⟨⟨q0, q1⟩, q2⟩ := hg
  rw [show k + 3 = (k + 2) + 1 by omega, grow_succ, if_pos ⟨by omega, by simpa using q0⟩, show k + 2 = (k + 1) + 1 by omega, grow_succ, if_pos ⟨by omega, q1⟩, grow_succ, if_pos ⟨by omega, q2⟩]
  congr 1

theorem al_few (l : List Int) (at_ d : Nat) (hg : gramEq l (at_ - d) at_ = false) : al l at_ d < 3 := by
  unfold al
  generalize min 66 (l.length - at_) = m
  by_cases h3 : m < 3
  · have := (grow_le l (at_ - d) at_ m m 0 (Nat.zero_le _)).1
    omega
  · obtain ⟨k, rfl⟩ : ∃ k, m = k + 3 := ⟨m - 3, by omega⟩
    unfold gramEq at hg
    rw [show k + 3 = (k + 2) + 1 by omega, grow_succ]
    split
    · rename_i q0
      rw [show k + 2 = (k + 1) + 1 by omega, grow_succ]
      split
      · rename_i q1
        rw [grow_succ]
        split
        · rename_i q2
          have e0 : l.getD (at_ - d) 0 = l.getD at_ 0 := by simpa using q0.2
          have e1 := q1.2
          have e2 := q2.2
          simp only [Nat.zero_add] at e1 e2
          rw [e0, e1, e2] at hg
          simp at hg
        · omega
      · omega
    · omega

/-- The places that are left, from the nearest on. -/
def desc (l : List Int) (at_ j : Nat) : List Int := (((List.range j).filter fun q => decide (q + 3 ≤ l.length) && gramEq l q at_).map fun q : Nat => (q : Int)).reverse

theorem desc_succ (l : List Int) (at_ j : Nat) : desc l at_ (j + 1) = if (decide (j + 3 ≤ l.length) && gramEq l j at_) = true then (j : Int) :: desc l at_ j else desc l at_ j := by
  unfold desc
  rw [List.range_succ, List.filter_append]
  by_cases h : (decide (j + 3 ≤ l.length) && gramEq l j at_) = true
  · rw [if_pos h]
    have : [j].filter (fun q => decide (q + 3 ≤ l.length) && gramEq l q at_) = [j] := by rw [List.filter_cons, if_pos h]; rfl
    rw [this]
    simp
  · rw [if_neg h]
    have : [j].filter (fun q => decide (q + 3 ≤ l.length) && gramEq l q at_) = [] := by rw [List.filter_cons, if_neg h]; rfl
    rw [this]
    simp

theorem desc_mem {l : List Int} {at_ j : Nat} {x : Int} (h : x ∈ desc l at_ j) : 0 ≤ x ∧ x < j := by
  unfold desc at h
  obtain ⟨q, hq, rfl⟩ := List.mem_map.1 (List.mem_reverse.1 h)
  have := List.mem_range.1 (List.mem_filter.1 hq).1
  omega

theorem findL_far (l : List Int) (at_ most : Nat) (ps : List Int) (len dist : Nat) (h : ∀ x ∈ ps, at_ - x.toNat > 1024) : findL l at_ most ps len dist = (len, dist) := by
  cases ps with
  | nil => rfl
  | cons f r => unfold findL; rw [if_pos (h f (by simp))]

theorem findL_best (l : List Int) (at_ : Nat) (h3 : at_ + 3 ≤ l.length) : ∀ (j : Nat), j ≤ at_ → at_ - j ≤ 1024 →
    findL l at_ (min 66 (l.length - at_)) (desc l at_ j) (cutB (bst l at_ (at_ - j))).1 (cutB (bst l at_ (at_ - j))).2 = cutB (bst l at_ (min 1024 at_)) := by
  intro j
  induction j with
  | zero =>
    intro h1 h2
    have : desc l at_ 0 = [] := rfl
    rw [this, show min 1024 at_ = at_ by omega]
    rfl
  | succ j ih =>
    intro h1 h2
    have hm : 3 ≤ min 66 (l.length - at_) := by omega
    by_cases hfar : at_ - j > 1024
    · rw [findL_far _ _ _ _ _ _ (fun x hx => by have := desc_mem hx; omega), show at_ - (j + 1) = min 1024 at_ by omega]
    · have ih' := ih (by omega) (by omega)
      obtain ⟨d, hd⟩ : ∃ d, at_ - (j + 1) = d := ⟨_, rfl⟩
      have hd1 : at_ - j = d + 1 := by omega
      have hj : at_ - (d + 1) = j := by omega
      rw [hd]
      rw [hd1] at ih'
      have stay : ∀ k, k ≤ min 1024 at_ → (bst l at_ k).1 = min 66 (l.length - at_) → cutB (bst l at_ (min 1024 at_)) = bst l at_ k := by
        intro k hk h
        have := bst_stay l at_ k h (min 1024 at_ - k)
        rw [show k + (min 1024 at_ - k) = min 1024 at_ by omega] at this
        rw [this, cutB, if_pos (by omega)]
      rw [desc_succ]
      by_cases hg : (decide (j + 3 ≤ l.length) && gramEq l j at_) = true
      · rw [if_pos hg]
        simp only [Bool.and_eq_true, decide_eq_true_eq] at hg
        have ha := al_gram l at_ (d + 1) hm (by rw [hj]; exact hg.2)
        rw [hj] at ha
        have hal := (grow_le l j at_ (min 66 (l.length - at_)) (min 66 (l.length - at_) - 3) 3 hm)
        unfold findL
        rw [Int.toNat_natCast, if_neg (by omega), ← ha, hd1]
        rw [← ha] at hal
        by_cases hlt : (bst l at_ d).1 < al l at_ (d + 1)
        · have hb : bst l at_ (d + 1) = (al l at_ (d + 1), d + 1) := by rw [bst_succ, if_pos hlt]
          have hc : cutB (bst l at_ (d + 1)) = (al l at_ (d + 1), d + 1) := by rw [hb, cutB, if_pos hal.2]
          rw [hc] at ih'
          have hgt : al l at_ (d + 1) > (cutB (bst l at_ d)).1 := by
            unfold cutB
            split
            · exact hlt
            · simp only; omega
          rw [if_pos hgt]
          by_cases hmost : al l at_ (d + 1) = min 66 (l.length - at_)
          · rw [if_pos hmost, stay (d + 1) (by omega) (by rw [hb]; exact hmost), hb]
          · rw [if_neg hmost]; exact ih'
        · have hb : bst l at_ (d + 1) = bst l at_ d := by rw [bst_succ, if_neg hlt]
          have hL : 3 ≤ (bst l at_ d).1 := by omega
          have hc : cutB (bst l at_ d) = bst l at_ d := by rw [cutB, if_pos hL]
          rw [hb, hc] at ih'
          rw [hc, if_neg (by omega)]
          by_cases hmost : (bst l at_ d).1 = min 66 (l.length - at_)
          · rw [if_pos hmost, stay d (by omega) hmost]
          · rw [if_neg hmost]; exact ih'
      · rw [if_neg hg]
        have hg2 : gramEq l (at_ - (d + 1)) at_ = false := by
          rw [hj]
          cases h : gramEq l j at_ with
          | false => rfl
          | true => exact absurd (by rw [h]; simp; omega) hg
        have ha := al_few l at_ (d + 1) hg2
        have hc : cutB (bst l at_ (d + 1)) = cutB (bst l at_ d) := by
          rw [bst_succ]
          split
          · unfold cutB
            rw [if_neg (by simp only; omega), if_neg (by omega)]
          · rfl
        rw [hc] at ih'
        exact ih'

/-- What 'find' tells is the greatest match that is no shorter than three. -/
theorem fnd_best (l : List Int) (at_ : Nat) : fnd l at_ = cutB (bst l at_ (min 1024 at_)) := by
  unfold fnd findS
  by_cases h : l.length < at_ + 3
  · rw [if_pos h, cutB, if_neg (by have := bst_le l at_ (min 1024 at_); omega)]
  · rw [if_neg h]
    have := findL_best l at_ (by omega) at_ (Nat.le_refl _) (by omega)
    rw [Nat.sub_self] at this
    exact this

end Go.Proofs.Ytoefligelajfkaa.Press

namespace Go.Proofs.Ytoefligelajfkaa.Press
open Go.RowKit Go.Proofs.YtoefligelajfkaaW.PrintWords Go.Proofs.YtoefligelajfkaaW.PrintLast Go.Proofs.YtoefligelajfkaaW.PrintMore Go.Proofs.Ytoefligelajfkaa.PPressSpoilt

theorem alike_run (l : List Int) (at_ g : Nat) (hg : g ≤ at_) (hat : at_ ≤ l.length) (hl : l.length ≤ 4096) : ∀ (f n k : Nat), n + f = min 66 (l.length - at_) → f < k →
    freightref4_alike.l0 k l (g : Int) at_ n = some ((grow l g at_ (min 66 (l.length - at_)) f n : Nat) : Int) := by
  intro f
  induction f with
  | zero =>
    intro n k hn hk
    obtain ⟨k, rfl⟩ : ∃ j, k = j + 1 := ⟨k - 1, by omega⟩
    simp only [freightref4_alike.l0, grow]
    by_cases h : n < 66
    · rw [if_pos (by omega), w64 (x := (at_ : Int) + n) (by omega) (by omega), if_neg (by omega)]
    · rw [if_neg (by omega)]
  | succ f ih =>
    intro n k hn hk
    obtain ⟨k, rfl⟩ : ∃ j, k = j + 1 := ⟨k - 1, by omega⟩
    simp only [freightref4_alike.l0]
    rw [grow_succ, w64 (x := (at_ : Int) + n) (by omega) (by omega), w64 (x := (g : Int) + n) (by omega) (by omega), w64 (x := (n : Int) + 1) (by omega) (by omega)]
    rw [if_pos (by omega), if_pos (by omega), if_pos (by omega), if_pos (by omega), if_pos (by omega)]
    rw [show (g : Int) + n = ((g + n : Nat) : Int) by omega, show (at_ : Int) + n = ((at_ + n : Nat) : Int) by omega, show (n : Int) + 1 = ((n + 1 : Nat) : Int) by omega, rd_nat, rd_nat]
    by_cases h : l.getD (g + n) 0 = l.getD (at_ + n) 0
    · rw [if_pos h, if_pos ⟨by omega, h⟩]
      exact ih (n + 1) k (by omega) (by omega)
    · rw [if_neg h, if_neg (fun hh => h hh.2)]

theorem alike_f (l : List Int) (at_ d k : Nat) (hat : at_ ≤ l.length) (hl : l.length ≤ 4096) (hk : 66 < k) :
    freightref4_alike.f k l ((at_ - d : Nat) : Int) at_ = some (al l at_ d : Int) := by
  have := alike_run l at_ (at_ - d) (by omega) hat hl (min 66 (l.length - at_)) 0 k (by omega) (by omega)
  exact this

theorem match_run (l : List Int) (at_ : Nat) (hat : at_ ≤ l.length) (hl : l.length ≤ 4096) : ∀ (j d k : Nat), d + j = min 1024 at_ → 2 * j + 80 < k →
    freightref4_match.l0 k l at_ (bst l at_ d).1 (bst l at_ d).2 ((d + 1 : Nat) : Int) = some (((bst l at_ (min 1024 at_)).1 : Int), ((bst l at_ (min 1024 at_)).2 : Int)) := by
  intro j
  induction j with
  | zero =>
    intro d k hd hk
    obtain ⟨k, rfl⟩ : ∃ j, k = j + 2 := ⟨k - 2, by omega⟩
    rw [freightref4_match.l0]
    have e : d = min 1024 at_ := by omega
    by_cases h : ((d + 1 : Nat) : Int) ≤ 1024
    · rw [if_pos h, show decide (((d + 1 : Nat) : Int) ≤ (at_ : Int)) = false by simp; omega, freightref4_match.j1, if_neg (by simp), ← e]
    · rw [if_neg h, freightref4_match.j1, if_neg (by simp), ← e]
  | succ j ih =>
    intro d k hd hk
    obtain ⟨k, rfl⟩ : ∃ j, k = j + 2 := ⟨k - 2, by omega⟩
    rw [freightref4_match.l0, if_pos (by omega), show decide (((d + 1 : Nat) : Int) ≤ (at_ : Int)) = true by simp; omega, freightref4_match.j1, if_pos rfl]
    rw [show wrap64 ((at_ : Int) - ((d + 1 : Nat) : Int)) = ((at_ - (d + 1) : Nat) : Int) by rw [w64 (by omega) (by omega)]; omega]
    rw [alike_f l at_ (d + 1) k hat hl (by omega), Option.bind_some]
    rw [show wrap64 (((d + 1 : Nat) : Int) + 1) = ((d + 1 + 1 : Nat) : Int) by rw [w64 (by omega) (by omega)]; omega]
    have ih' := ih (d + 1) k (by omega) (by omega)
    rw [bst_succ] at ih'
    by_cases h : (bst l at_ d).1 < al l at_ (d + 1)
    · rw [if_pos h] at ih'
      rw [if_pos (by omega)]
      exact ih'
    · rw [if_neg h] at ih'
      rw [if_neg (by omega)]
      exact ih'

/-- freightref4's match. -/
theorem match_any (A0 : Option Addr) (c0 : Nat) (l0 : List Int) (at_ : Nat) (w : World) (hr0 : Kd.C (Kd.int .u8) w A0 l0.length l0) (hc0 : l0.length ≤ c0) (hat : at_ ≤ l0.length) (hl : l0.length ≤ 4096) :
    Calls Try.prog 52 #[.slice A0 l0.length c0, .int .i64 at_] w fun e w' => e = .returned (.tuple #[.int .i64 (bst l0 at_ (min 1024 at_)).1, .int .i64 (bst l0 at_ (min 1024 at_)).2]) ∧ Below w.heap.size w w' :=
  (freightref4_match.calls 3000 A0 c0 l0 at_ _ _ w hr0 hc0 (match_run l0 at_ hat hl (min 1024 at_) 0 3000 (by omega) (by omega))).mono fun e w' h => ⟨h.1, h.2.below⟩

/-- What is known at the loop's head. -/
structure RInv (w : World) (l0 : List Int) (rs : List Int) (wr : World) (k : Nat) (vo : Value) (out : List Int) (flag items at_ bit : Nat) : Prop where
  at_le : at_ ≤ l0.length
  fuel : l0.length ≤ at_ + k
  items_le : items ≤ at_
  olen : out.length ≤ 3 * items
  fl : items % 8 ≠ 0 → FlagOk out flag (items % 8)
  bit_eq : bit = if items % 8 = 0 then 8 else items % 8
  run : packR l0 k out flag items at_ = rs
  own : Kd.R (Kd.int .u8) 5 wr w.heap.size (fun _ => True) vo out
  bel : Below w.heap.size w wr

structure RMid (w : World) (wr : World) (vo : Value) (out : List Int) (flag items : Nat) : Prop where
  fl : FlagOk out flag (items % 8)
  olen : out.length ≤ 3 * items + 1
  own : Kd.R (Kd.int .u8) 5 wr w.heap.size (fun _ => True) vo out
  bel : Below w.heap.size w wr

theorem bit_next (items : Nat) : items % 8 + 1 = if (items + 1) % 8 = 0 then 8 else (items + 1) % 8 := by split <;> omega
theorem FlagOk.next {out : List Int} {flag items : Nat} (h : FlagOk out flag (items % 8 + 1)) : (items + 1) % 8 ≠ 0 → FlagOk out flag ((items + 1) % 8) := by
  intro h8
  have : (items + 1) % 8 = items % 8 + 1 := by omega
  rw [this]; exact h

theorem add_flag (fb : Int) (b : Nat) (hb : b < 8) (h0 : 0 ≤ fb) (h1 : fb < 2 ^ b) : (fb + 2 ^ b) % 256 = fb + 2 ^ b := by
  have : b = 0 ∨ b = 1 ∨ b = 2 ∨ b = 3 ∨ b = 4 ∨ b = 5 ∨ b = 6 ∨ b = 7 := by omega
  rcases this with rfl | rfl | rfl | rfl | rfl | rfl | rfl | rfl <;> (simp at h1 ⊢; omega)

set_option maxHeartbeats 4000000 in
set_option maxRecDepth 100000 in
theorem refpack_walk (A0 : Option Addr) (c0 : Nat) (l0 : List Int) (w : World) (hr0 : Kd.C (Kd.int .u8) w A0 l0.length l0) (hc0 : l0.length ≤ c0) (hl : l0.length ≤ 4096) :
    Calls Try.prog 21 #[.slice A0 l0.length c0] w fun e w' => ∃ v, e = .returned (.tuple #[v, .int .i64 0]) ∧
      Kd.R (Kd.int .u8) 5 w' w.heap.size (fun _ => True) v (packR l0 l0.length [] 0 0 0) ∧ Below w.heap.size w w' := by
  obtain ⟨rs, hrs⟩ : ∃ rs, packR l0 l0.length [] 0 0 0 = rs := ⟨_, rfl⟩
  rw [hrs]
  have HRS := Aside0.mk hrs
  clear hrs
  have HR0 := Aside0.mk hr0
  clear hr0
  have hl1 : (l0.length : Int) ≤ 4096 := by omega
  have hl2 : decide ((4096 : Int) < (l0.length : Int)) = false := by simp; omega
  have hl3 : decide (4096 < l0.length) = false := by simp; omega
  go_enter Try.func21, Try.ntmps21
  go_wp2
  go_loopg [4, 5, 6, 7] (l0.length) (fun k v4 v5 v6 v7 w' => ∃ (out : List Int) (flag items at_ bit : Nat), v5 = .int .i64 flag ∧ v6 = .int .i64 bit ∧ v7 = .int .i64 at_ ∧ RInv w l0 rs w' k v4 out flag items at_ bit)
  case atStart => exact ⟨[], 0, 0, 0, 8, rfl, rfl, rfl, ⟨Nat.zero_le _, by omega, Nat.le_refl _, by simp, fun h => absurd rfl h, rfl, HRS.out, Kd.R_nil _ _ _ _ _, Below.refl _ _⟩⟩
  case round =>
    obtain ⟨out, flag, items, at_, bit, rfl, rfl, rfl, HI0⟩ := hrel
    obtain ⟨Ao, co, eo⟩ := Kd.R_slice HI0.own
    subst eo
    by_cases hat : at_ < l0.length
    · have hat1 : (at_ : Int) < (l0.length : Int) := by omega
      have hit : items ≤ 4096 := by have := HI0.items_le; omega
      have hol : out.length ≤ 12288 := by have := HI0.olen; omega
      cases gk with
      | zero => exact absurd HI0.fuel (by omega)
      | succ k =>
      go_upto_if 19 with (fail)
      go_cut [4, 5, 6] (fun v4 v5 v6 wc => ∃ flag1 bit1 : Nat, v5 = .int .i64 flag1 ∧ v6 = .int .i64 bit1 ∧ bit1 = items % 8 ∧ flag1 = (if items % 8 = 0 then out.length else flag) ∧ RMid w wc v4 (if items % 8 = 0 then out ++ [0] else out) flag1 items)
      case first =>
        by_cases h8 : items % 8 = 0
        · have h80 : bit = 8 := by rw [HI0.bit_eq, if_pos h8]
          have h81 : ((bit : Int) == 8) = true := by simp; omega
          have H8 := Aside0.mk h8
          clear h8 h80
          go_wp2_with (at_builtin; refine Kd.R_append (Kd.int .u8) (w0 := w) w.heap.size rfl (.tmp 22) (.tmp 23) 22 5 (.int .u8 0) 1 rfl Try.underlying22 info5 rfl (by decide) (by omega) (.slice Ao out.length co) out 0 [.int .u8 0] (fun _ => True) (fun _ => False) rfl rfl rfl (fun _ hk => hk.elim) (fun _ _ => trivial) HI0.own HI0.bel HI0.bel.size (by omega) ?_; intro v1 w2 ho hb hg hat')
          go_meet
          case rel =>
            refine ⟨out.length, 0, rfl, rfl, H8.out.symm, by rw [if_pos H8.out], ?_⟩
            rw [if_pos H8.out]
            exact ⟨by rw [H8.out]; exact FlagOk.new out, by have := HI0.olen; simp; omega, ho, hb⟩
        · have h80 : bit = items % 8 := by rw [HI0.bit_eq, if_neg h8]
          have h81 : ((bit : Int) == 8) = false := by simp; omega
          have H8 := Aside0.mk h8
          clear h8
          go_wp2
          go_meet
          case rel =>
            refine ⟨flag, bit, rfl, rfl, h80, by rw [if_neg H8.out], ?_⟩
            rw [if_neg H8.out]
            exact ⟨HI0.fl H8.out, by have := HI0.olen; omega, HI0.own, HI0.bel⟩
      case rest =>
        obtain ⟨flag1, bit1, rfl, rfl, hbit1, hfl1, HM⟩ := hcut
        obtain ⟨out1, ho1⟩ : ∃ o, o = (if items % 8 = 0 then out ++ [0] else out) := ⟨_, rfl⟩
        have hrun := HI0.run
        rw [packR, if_pos hat, ← hfl1, ← ho1] at hrun
        rw [← ho1] at HM
        have hb := fnd_bounds l0 at_
        have hbe := fnd_best l0 at_
        obtain ⟨mn, md, hmd⟩ : ∃ mn md, bst l0 at_ (min 1024 at_) = (mn, md) := ⟨_, _, rfl⟩
        rw [hmd] at hbe
        rw [hbe] at hb hrun
        have HMD := Aside0.mk hmd
        have hb7 : bit1 < 8 := by omega
        have HBIT := Aside0.mk hbit1
        clear hmd hbe hfl1 ho1 hbit1
        obtain ⟨Ao1, co1, eo1⟩ := Kd.R_slice HM.own
        subst eo1
        have hol1 : out1.length ≤ 12289 := by have := HM.olen; omega
        by_cases hn3 : 3 ≤ mn
        · have hn31 : (3 : Int) ≤ (mn : Int) := by omega
          have hcb : cutB (mn, md) = (mn, md) := by rw [cutB, if_pos hn3]
          rw [hcb] at hb hrun
          have hbb := hb.resolve_left (by simp only; omega)
          clear hb hcb
          rw [if_neg (by simp only; omega)] at hrun
          have HRUN := Aside0.mk hrun
          clear hrun
          obtain ⟨hb1, hb2, hb3, hb4, hb5, hb6⟩ := hbb
          simp only at hb1 hb2 hb3 hb4 hb5 hb6
          obtain ⟨v, hv⟩ : ∃ v : Nat, v = (md - 1) * 64 + (mn - 3) := ⟨_, rfl⟩
          have hv1 : ((md : Int) - 1) * 64 + (mn : Int) - 3 = (v : Int) := by omega
          have hv2 : v ≤ 65535 := by omega
          have HV := Aside0.mk hv
          clear hv
          go_wp2_with (first
            | (go_at_call 52; refine (match_any _ _ _ _ _ (Kd.C_below HR0.out HM.bel) hc0 (by omega) hl).mono ?_; rw [HMD.out]; rintro e w3 ⟨rfl, hb3⟩; have hR3 := Kd.R_below HM.own hb3; have hB3 := below_step HM.bel hb3; clear hb3)
            | (at_builtin; go_loud (refine Kd.R_append_rows (Kd.int .u8) (w0 := w) w.heap.size rfl (.tmp 39) (.tmp 46) 22 5 (.int .u8 0) 1 rfl Try.underlying22 info5 rfl (by decide) (by omega) (.slice Ao1 out1.length co1) out1 [(v : Int) / 256, (v : Int) % 256] (some ⟨w3.heap.size, 0, none⟩) 2 2 (fun _ => True) (fun _ => False) rfl rfl (Kd.R_alloc hR3 _) (reads_two w3 w.heap.size _ _ hB3.size) (fun _ _ h => h) (fun _ hk => hk.elim) (fun _ _ => trivial) (below_alloc hB3 _) (by simp; have := hB3.size; omega) (by omega) ?_); intro v1 w4 ho hb7 hg4 hat'))
          obtain ⟨out3, ho3⟩ : ∃ o, o = out1 ++ [(v : Int) / 256, (v : Int) % 256] := ⟨_, rfl⟩
          rw [← ho3] at ho
          have hfk : FlagOk out3 flag1 (items % 8) := by rw [ho3]; exact HM.fl.append _
          have hflt := hfk.lt
          obtain ⟨g, cap, ev1, hgb, hglt, cells, hcells⟩ := Kd.R_form ho (by omega)
          subst ev1
          obtain ⟨hc, hz⟩ := Kd.R_celln (0 : Int) ho (flag1 : Int) (by omega) (by omega)
          simp only [Int.toNat_natCast] at hc hz
          obtain ⟨fb, hfb⟩ : ∃ fb : Int, rdOf 0 out3 (flag1 : Int) = fb := ⟨_, rfl⟩
          rw [hfb] at hc
          have hflt1 : (flag1 : Int) < (out3.length : Int) := by omega
          have HQ := Aside0.mk (⟨ho, hb7⟩ : Kd.R (Kd.int .u8) 5 w4 w.heap.size (fun _ => True) (.slice (some ⟨g, 0, none⟩) out3.length cap) out3 ∧ Below w.heap.size w w4)
          have HO3 := Aside0.mk (⟨ho3, hfb⟩ : out3 = out1 ++ [(v : Int) / 256, (v : Int) % 256] ∧ rdOf 0 out3 (flag1 : Int) = fb)
          clear ho hb7 hcells ho3 hfb hg4 hat' hfk
          go_region
          go_wp2
          go_roundg k
          case measure => omega
          case rel =>
            have hr := HRUN.out
            have hfk : FlagOk out3 flag1 (items % 8) := by rw [HO3.out.1]; exact HM.fl.append _
            have hfd : fb = out3.getD flag1 0 := by rw [← HO3.out.2]; simp [rdOf]
            have hor : (fb + 2 ^ (items % 8)) % 256 = fb + 2 ^ (items % 8) := add_flag fb (items % 8) (by omega) (by rw [hfd]; exact hfk.lo) (by rw [hfd]; exact hfk.hi)
            have hmk : mark out3 flag1 (items % 8) = out3.set flag1 (fb + 2 ^ (items % 8)) := by rw [mark, hfd]
            have hR := Kd.R_drew (Kd.R_putn (enc := Value.int .u8) (h1 := fun _ => rfl) HQ.out.1 (flag1 : Int) (fb + 2 ^ (items % 8)))
            simp only [Int.toNat_natCast] at hR
            have hiv : itemV (mn, md) = (v : Int) := by rw [itemV, HV.out]
            have hbi := HBIT.out
            subst hbi
            rw [hor]
            rw [hiv, ← HO3.out.1] at hr
            exact ⟨mark out3 flag1 (items % 8), flag1, items + 1, at_ + mn, items % 8 + 1, rfl, by go_num, by go_num, by omega, by have := HI0.fuel; omega, by have := HI0.items_le; omega, by rw [mark_length, HO3.out.1]; have := HM.olen; simp; omega, hfk.mark.next, bit_next items, hr, by rw [hmk]; exact hR, (HQ.out.2.setCell hgb _).drew⟩
        · have hn31 : decide ((3 : Int) ≤ (mn : Int)) = false := by simp; omega
          have hn32 : decide (3 ≤ mn) = false := by simp; omega
          have hcb : cutB (mn, md) = (0, 0) := by rw [cutB, if_neg hn3]
          rw [hcb, if_pos rfl] at hrun
          have HRUN := Aside0.mk hrun
          clear hrun hb hcb hn3
          go_wp2_with (first
            | (go_at_call 52; refine (match_any _ _ _ _ _ (Kd.C_below HR0.out HM.bel) hc0 (by omega) hl).mono ?_; rw [HMD.out]; rintro e w3 ⟨rfl, hb3⟩; have hR3 := Kd.R_below HM.own hb3; have hB3 := below_step HM.bel hb3; obtain ⟨ad, e0, hx⟩ := Kd.at_int (Kd.C_below HR0.out hB3) (at_ : Int) (by omega) (by omega); cases e0; simp only [Int.toNat_natCast] at hx; clear hb3)
            | (at_builtin; refine Kd.R_append (Kd.int .u8) (w0 := w) w.heap.size rfl (.tmp 61) (.tmp 66) 22 5 (.int .u8 0) 1 rfl Try.underlying22 info5 rfl (by decide) (by omega) (.slice Ao1 out1.length co1) out1 (rd l0 at_) [.int .u8 (rd l0 at_)] (fun _ => True) (fun _ => False) rfl rfl rfl (fun _ hk => hk.elim) (fun _ _ => trivial) hR3 hB3 hB3.size (by omega) ?_; intro v1 w4 ho hb4 hg4 hat'))
          go_roundg k
          case measure => omega
          case rel =>
            have hr := HRUN.out
            exact ⟨out1 ++ [rd l0 at_], flag1, items + 1, at_ + 1, bit1 + 1, rfl, by go_num, by go_num, by omega, by have := HI0.fuel; omega, by have := HI0.items_le; omega, by have := HM.olen; simp; omega, (HM.fl.append _).up.next, by rw [HBIT.out]; exact bit_next items, by rw [rd_nat]; exact hr, ho, hb4⟩
    · have hat0 : at_ = l0.length := by have := HI0.at_le; omega
      have hat1 : (l0.length : Int) ≤ (at_ : Int) := by omega
      have hr := HI0.run
      have : packR l0 gk out flag items at_ = out := by cases gk <;> simp [packR, hat]
      rw [this] at hr
      subst hr
      clear this hat0
      go_wp2
      go_ret2
      exact ⟨_, rfl, HI0.own, HI0.bel⟩

/-- freightref4.Pack of any bytes. -/
theorem ref_pack_any (A0 : Option Addr) (c0 : Nat) (l0 : List Int) (w : World) (hr0 : Kd.C (Kd.int .u8) w A0 l0.length l0) (hc0 : l0.length ≤ c0) (hl : l0.length ≤ 140737488355328) :
    Calls Try.prog 21 #[.slice A0 l0.length c0] w fun e w' => ∃ v, e = .returned (.tuple #[v, .int .i64 (packS l0).2]) ∧
      Kd.R (Kd.int .u8) 5 w' w.heap.size (fun _ => True) v (packS l0).1 ∧ Below w.heap.size w w' := by
  by_cases h : l0.length > 4096
  · have hs : packS l0 = ([], 2) := by unfold packS; rw [if_pos h]
    rw [hs]
    have h1 : (4096 : Int) < (l0.length : Int) := by omega
    go_enter Try.func21, Try.ntmps21
    go_wp2
    go_ret2
    exact ⟨_, rfl, Kd.R_nil _ _ _ _ _, Below.refl _ _⟩
  · have hs : packS l0 = (packR l0 l0.length [] 0 0 0, 0) := by unfold packS; rw [if_neg h]
    rw [hs]
    exact refpack_walk A0 c0 l0 w hr0 hc0 (by omega)
end Go.Proofs.Ytoefligelajfkaa.Press

namespace Go.Proofs.Ytoefligelajfkaa.Block
open Go.RowKit Go.Proofs.YtoefligelajfkaaW.PrintWords Go.Proofs.YtoefligelajfkaaW.PrintLast Go.Proofs.YtoefligelajfkaaW.PrintMore Go.Proofs.Ytoefligelajfkaa.Press

theorem xor64 (a b : Nat) (ha : a < 4294967296) (hb : b < 4294967296) : bits .xor .i64 (a : Int) (b : Int) = ((a ^^^ b : Nat) : Int) := by
  show IntKind.i64.wrap (((BitVec.ofInt 64 (a : Int)) ^^^ (BitVec.ofInt 64 (b : Int))).toNat : Int) = _
  have := Nat.xor_lt_two_pow (n := 32) ha hb
  rw [BitVec.toNat_xor, ofInt_u64 a (by omega), ofInt_u64 b (by omega), IntWalk.i64_in _ (by omega)]

set_option maxHeartbeats 2000000 in
theorem ref_sum_any (A0 : Option Addr) (c0 : Nat) (l0 : List Int) (w : World) (hr0 : Kd.C (Kd.int .u8) w A0 l0.length l0) (hby : ∀ x ∈ l0, 0 ≤ x ∧ x ≤ 255) (hl : l0.length ≤ 140737488355328) :
    Calls Try.prog 54 #[.slice A0 l0.length c0] w fun e w' => e = .returned (.int .i64 (sumS l0)) ∧ w = w' := by
  have HR0 := Aside0.mk hr0
  clear hr0
  go_enter Try.func54, Try.ntmps54
  go_wp2
  go_loopg [3, 4] (l0.length) (fun k v3 v4 w' => ∃ r j : Nat, v3 = .int .i64 r ∧ v4 = .int .i64 j ∧ j + k = l0.length ∧ r < 4294967296 ∧ Aside0 (sumR (l0.drop j) r = sumR l0 4294967295) ∧ w' = w)
  case atStart => exact ⟨4294967295, 0, rfl, rfl, by omega, by omega, ⟨rfl⟩, rfl⟩
  case round =>
    obtain ⟨r, j, rfl, rfl, hjk, hr, HS, rfl⟩ := hrel
    cases gk with
    | zero =>
      have hj : j = l0.length := by omega
      subst hj
      have hs := HS.out
      rw [List.drop_length] at hs
      have hfin : (4294967295 : Int) - (r : Int) = (sumS l0 : Int) := by
        rw [sumS, ← hs]
        show _ = ((4294967295 - r : Nat) : Int)
        omega
      clear hs HS
      go_wp2
      go_ret
      exact ⟨rfl, rfl⟩
    | succ k =>
      have hjl : j < l0.length := by omega
      have hjl1 : (j : Int) < (l0.length : Int) := by omega
      obtain ⟨ad, e0, hx⟩ := Kd.at_int HR0.out (j : Int) (by omega) (by omega)
      cases e0
      obtain ⟨x, hxn⟩ : ∃ x : Nat, rd l0 (j : Int) = (x : Int) := ⟨(rd l0 (j : Int)).toNat, by have := rd_byte hby (j : Int); omega⟩
      have hxb : x ≤ 255 := by have := rd_byte hby (j : Int); omega
      rw [hxn] at hx
      simp only [Int.toNat_natCast] at hx
      obtain ⟨r1, hr1⟩ : ∃ r1, r1 = r ^^^ x := ⟨_, rfl⟩
      have hr1l : r1 < 4294967296 := by rw [hr1]; exact Nat.xor_lt_two_pow (n := 32) hr (by omega)
      have hs := HS.out
      rw [drop_cons l0 j hjl, sumR, ← rd_nat, hxn, Int.toNat_natCast, ← hr1] at hs
      have hb1 : bits .xor .i64 (r : Int) (x : Int) = (r1 : Int) := by rw [hr1]; exact xor64 r x hr (by omega)
      have HS2 := Aside0.mk hs
      clear hs HS hr1 hxn
      go_wp2
      go_loopg [3, 5] 8 (fun k v3 v5 w' => ∃ t r : Nat, v3 = .int .i64 r ∧ v5 = .int .i64 t ∧ t + k = 8 ∧ r < 4294967296 ∧ Aside0 (f1n k r = f4 (f4 r1)) ∧ w' = wr)
      case atStart => exact ⟨0, r1, rfl, rfl, rfl, hr1l, ⟨rfl⟩, rfl⟩
      case round =>
        obtain ⟨t, r2, rfl, rfl, htk, hr2, HF, rfl⟩ := hrel
        cases gk with
        | zero =>
          have ht8 : t = 8 := by omega
          subst ht8
          have hrf : r2 = f4 (f4 r1) := HF.out
          have HS3 : Aside0 (sumR (l0.drop (j + 1)) r2 = sumR l0 4294967295) := ⟨by rw [hrf]; exact HS2.out⟩
          clear hrf HF
          go_wp2
          go_roundg k
          case measure => omega
          case rel => exact ⟨r2, j + 1, rfl, by go_num, by omega, hr2, HS3, rfl⟩
        | succ kt =>
          have ht : (t : Int) < 8 := by omega
          have HF2 : Aside0 (f1n kt (f1 r2) = f4 (f4 r1)) := ⟨HF.out⟩
          have hf1 : f1 r2 < 4294967296 := f1_lt hr2
          clear HF
          by_cases hodd : r2 % 2 = 1
          · have hmod : (r2 : Int) % 2 = 1 := by omega
            have hhalf : bits .xor .i64 ((r2 : Int) / 2) 3988292384 = (f1 r2 : Int) := by
              have := xor64 (r2 / 2) 3988292384 (by omega) (by omega)
              rw [f1, if_pos hodd, ← this]; rfl
            clear hodd
            go_wp2
            go_roundg kt
            case measure => omega
            case rel => exact ⟨t + 1, f1 r2, rfl, by go_num, by omega, hf1, HF2, rfl⟩
          · have hmod : (r2 : Int) % 2 = 0 := by omega
            have hhalf : (r2 : Int) / 2 = (f1 r2 : Int) := by rw [f1, if_neg hodd]; rfl
            clear hodd
            go_wp2
            go_roundg kt
            case measure => omega
            case rel => exact ⟨t + 1, f1 r2, by first | rfl | rw [hhalf], by go_num, by omega, hf1, HF2, rfl⟩
end Go.Proofs.Ytoefligelajfkaa.Block

namespace Go.Proofs.Ytoefligelajfkaa.PBlockOpens
open Go.RowKit Go.Proofs.YtoefligelajfkaaW.PrintWords Go.Proofs.YtoefligelajfkaaW.PrintLast Go.Proofs.YtoefligelajfkaaW.PrintMore
attribute [local go_sem] max2_int min2_int max_two min_two max_three min_three max_four min_four   -- for this text's walks alone
set_option linter.unusedVariables false
set_option linter.unusedSimpArgs false

/-! ### freightref11_isSize: function 53 -/
def freightref11_isSize.f (a0 : Int) : Option (Bool) := if a0 ≥ 16 then (some (decide (a0 ≤ 4096))) else (some false)
set_option maxHeartbeats 8000000 in
set_option maxRecDepth 100000 in
theorem freightref11_isSize.calls (a0 : Int) (r : Bool) (w : World) (h : freightref11_isSize.f a0 = some r) :
    Calls Try.prog 53 #[.int .i64 a0] w fun e w' => e = .returned (.bool r) ∧ Drawn0 w w' := by
  have H : (if a0 ≥ 16 then (some (decide (a0 ≤ 4096))) else (some false)) = some r := h
  clear h
  by_cases c2 : a0 ≥ 16
  · rw [if_pos c2] at H
    have c2b0 : decide (16 ≤ a0) = true := decide_eq_true c2
    clear c2
    obtain rfl := Option.some.inj H
    go_enter Try.func53, Try.ntmps53
    go_wp2
    go_ret
    exact ⟨by first | rfl | (simp; done) | (simp [*]; done), by repeat (first | exact Drawn0.refl _ | apply Drawn0.step)⟩
  · rw [if_neg c2] at H
    have c2b0 : decide (16 ≤ a0) = false := decide_eq_false c2
    clear c2
    obtain rfl := Option.some.inj H
    go_enter Try.func53, Try.ntmps53
    go_wp2
    go_ret
    exact ⟨by first | rfl | (simp; done) | (simp [*]; done), by repeat (first | exact Drawn0.refl _ | apply Drawn0.step)⟩

/-! ### freightref11_Cover: function 43 -/
def freightref11_Cover.f (a0 : Int) (a1 : Int) (a2 : Int) : Option (Int × Int) := (freightref11_isSize.f a0).bind fun t111 => (if t111 = true then (if a1 < 0 then (some (0, 0)) else (if a1 > 2147483647 then (some (0, 0)) else (if a2 < 1 then (some (0, 0)) else (if a2 > 2147483647 then (some (0, 0)) else (if a0 = 0 then (none) else (some (wrap64 (Int.tdiv a1 a0), wrap64 ((wrap64 (Int.tdiv (wrap64 ((wrap64 (a1 + a2)) - 1)) a0)) + 1)))))))) else (some (0, 0)))
set_option maxHeartbeats 8000000 in
set_option maxRecDepth 100000 in
theorem freightref11_Cover.calls (a0 : Int) (a1 : Int) (a2 : Int) (r1 : Int) (r2 : Int) (w : World) (h : freightref11_Cover.f a0 a1 a2 = some (r1, r2)) :
    Calls Try.prog 43 #[.int .i64 a0, .int .i64 a1, .int .i64 a2] w fun e w' => e = .returned (.tuple #[.int .i64 r1, .int .i64 r2]) ∧ Drawn0 w w' := by
  have H : ((freightref11_isSize.f a0).bind fun t111 => (if t111 = true then (if a1 < 0 then (some (0, 0)) else (if a1 > 2147483647 then (some (0, 0)) else (if a2 < 1 then (some (0, 0)) else (if a2 > 2147483647 then (some (0, 0)) else (if a0 = 0 then (none) else (some (wrap64 (Int.tdiv a1 a0), wrap64 ((wrap64 (Int.tdiv (wrap64 ((wrap64 (a1 + a2)) - 1)) a0)) + 1)))))))) else (some (0, 0)))) = some (r1, r2) := h
  clear h
  replace H := Option.bind_eq_some_iff.mp H
  obtain ⟨t111, A40, H⟩ := H
  replace H : (if t111 = true then (if a1 < 0 then (some (0, 0)) else (if a1 > 2147483647 then (some (0, 0)) else (if a2 < 1 then (some (0, 0)) else (if a2 > 2147483647 then (some (0, 0)) else (if a0 = 0 then (none) else (some (wrap64 (Int.tdiv a1 a0), wrap64 ((wrap64 (Int.tdiv (wrap64 ((wrap64 (a1 + a2)) - 1)) a0)) + 1)))))))) else (some (0, 0))) = some (r1, r2) := H
  have A4 := Aside0.mk A40
  clear A40
  by_cases c5 : t111 = true
  · subst c5
    have H1 : (if a1 < 0 then (some (0, 0)) else (if a1 > 2147483647 then (some (0, 0)) else (if a2 < 1 then (some (0, 0)) else (if a2 > 2147483647 then (some (0, 0)) else (if a0 = 0 then (none) else (some (wrap64 (Int.tdiv a1 a0), wrap64 ((wrap64 (Int.tdiv (wrap64 ((wrap64 (a1 + a2)) - 1)) a0)) + 1)))))))) = some (r1, r2) := by rw [if_pos rfl] at H; exact H
    clear H
    have H := H1
    clear H1
    by_cases c6 : a1 < 0
    · rw [if_pos c6] at H
      have c6b0 : decide (a1 < 0) = true := decide_eq_true c6
      clear c6
      simp only [Option.some.injEq, Prod.mk.injEq] at H
      obtain ⟨rfl, rfl⟩ := H
      go_enter Try.func43, Try.ntmps43
      go_wp2_with (first | (go_at_call 53; (with_reducible refine (freightref11_isSize.calls a0 true _ A4.out).mono ?_); rintro e w' ⟨rfl, ⟨nd, rfl⟩⟩; (try first | exact ⟨rfl, _, World.drewN_drewN _ _ _⟩ | exact ⟨rfl, _, Eq.trans (World.drewN_drewN _ _ _) (congrArg (World.drewN _) (Nat.add_assoc _ _ _))⟩)))
      repeat (go_quiet (first | (go_at_call 53; (with_reducible refine (freightref11_isSize.calls a0 true _ A4.out).mono ?_); rintro e w' ⟨rfl, ⟨nd, rfl⟩⟩; (try first | exact ⟨rfl, _, World.drewN_drewN _ _ _⟩ | exact ⟨rfl, _, Eq.trans (World.drewN_drewN _ _ _) (congrArg (World.drewN _) (Nat.add_assoc _ _ _))⟩))); try go_wp2_with (first | (go_at_call 53; (with_reducible refine (freightref11_isSize.calls a0 true _ A4.out).mono ?_); rintro e w' ⟨rfl, ⟨nd, rfl⟩⟩; (try first | exact ⟨rfl, _, World.drewN_drewN _ _ _⟩ | exact ⟨rfl, _, Eq.trans (World.drewN_drewN _ _ _) (congrArg (World.drewN _) (Nat.add_assoc _ _ _))⟩))))
      go_ret2
      exact ⟨by first | rfl | (simp; done) | (simp [*]; done), by repeat (first | exact Drawn0.refl _ | apply Drawn0.step)⟩
    · rw [if_neg c6] at H
      have c6b0 : decide (a1 < 0) = false := decide_eq_false c6
      clear c6
      by_cases c7 : a1 > 2147483647
      · rw [if_pos c7] at H
        have c7b0 : decide (2147483647 < a1) = true := decide_eq_true c7
        clear c7
        simp only [Option.some.injEq, Prod.mk.injEq] at H
        obtain ⟨rfl, rfl⟩ := H
        go_enter Try.func43, Try.ntmps43
        go_wp2_with (first | (go_at_call 53; (with_reducible refine (freightref11_isSize.calls a0 true _ A4.out).mono ?_); rintro e w' ⟨rfl, ⟨nd, rfl⟩⟩; (try first | exact ⟨rfl, _, World.drewN_drewN _ _ _⟩ | exact ⟨rfl, _, Eq.trans (World.drewN_drewN _ _ _) (congrArg (World.drewN _) (Nat.add_assoc _ _ _))⟩)))
        repeat (go_quiet (first | (go_at_call 53; (with_reducible refine (freightref11_isSize.calls a0 true _ A4.out).mono ?_); rintro e w' ⟨rfl, ⟨nd, rfl⟩⟩; (try first | exact ⟨rfl, _, World.drewN_drewN _ _ _⟩ | exact ⟨rfl, _, Eq.trans (World.drewN_drewN _ _ _) (congrArg (World.drewN _) (Nat.add_assoc _ _ _))⟩))); try go_wp2_with (first | (go_at_call 53; (with_reducible refine (freightref11_isSize.calls a0 true _ A4.out).mono ?_); rintro e w' ⟨rfl, ⟨nd, rfl⟩⟩; (try first | exact ⟨rfl, _, World.drewN_drewN _ _ _⟩ | exact ⟨rfl, _, Eq.trans (World.drewN_drewN _ _ _) (congrArg (World.drewN _) (Nat.add_assoc _ _ _))⟩))))
        go_ret2
        exact ⟨by first | rfl | (simp; done) | (simp [*]; done), by repeat (first | exact Drawn0.refl _ | apply Drawn0.step)⟩
      · rw [if_neg c7] at H
        have c7b0 : decide (2147483647 < a1) = false := decide_eq_false c7
        clear c7
        by_cases c8 : a2 < 1
        · rw [if_pos c8] at H
          have c8b0 : decide (a2 < 1) = true := decide_eq_true c8
          clear c8
          simp only [Option.some.injEq, Prod.mk.injEq] at H
          obtain ⟨rfl, rfl⟩ := H
          go_enter Try.func43, Try.ntmps43
          go_wp2_with (first | (go_at_call 53; (with_reducible refine (freightref11_isSize.calls a0 true _ A4.out).mono ?_); rintro e w' ⟨rfl, ⟨nd, rfl⟩⟩; (try first | exact ⟨rfl, _, World.drewN_drewN _ _ _⟩ | exact ⟨rfl, _, Eq.trans (World.drewN_drewN _ _ _) (congrArg (World.drewN _) (Nat.add_assoc _ _ _))⟩)))
          repeat (go_quiet (first | (go_at_call 53; (with_reducible refine (freightref11_isSize.calls a0 true _ A4.out).mono ?_); rintro e w' ⟨rfl, ⟨nd, rfl⟩⟩; (try first | exact ⟨rfl, _, World.drewN_drewN _ _ _⟩ | exact ⟨rfl, _, Eq.trans (World.drewN_drewN _ _ _) (congrArg (World.drewN _) (Nat.add_assoc _ _ _))⟩))); try go_wp2_with (first | (go_at_call 53; (with_reducible refine (freightref11_isSize.calls a0 true _ A4.out).mono ?_); rintro e w' ⟨rfl, ⟨nd, rfl⟩⟩; (try first | exact ⟨rfl, _, World.drewN_drewN _ _ _⟩ | exact ⟨rfl, _, Eq.trans (World.drewN_drewN _ _ _) (congrArg (World.drewN _) (Nat.add_assoc _ _ _))⟩))))
          go_ret2
          exact ⟨by first | rfl | (simp; done) | (simp [*]; done), by repeat (first | exact Drawn0.refl _ | apply Drawn0.step)⟩
        · rw [if_neg c8] at H
          have c8b0 : decide (a2 < 1) = false := decide_eq_false c8
          clear c8
          by_cases c9 : a2 > 2147483647
          · rw [if_pos c9] at H
            have c9b0 : decide (2147483647 < a2) = true := decide_eq_true c9
            clear c9
            simp only [Option.some.injEq, Prod.mk.injEq] at H
            obtain ⟨rfl, rfl⟩ := H
            go_enter Try.func43, Try.ntmps43
            go_wp2_with (first | (go_at_call 53; (with_reducible refine (freightref11_isSize.calls a0 true _ A4.out).mono ?_); rintro e w' ⟨rfl, ⟨nd, rfl⟩⟩; (try first | exact ⟨rfl, _, World.drewN_drewN _ _ _⟩ | exact ⟨rfl, _, Eq.trans (World.drewN_drewN _ _ _) (congrArg (World.drewN _) (Nat.add_assoc _ _ _))⟩)))
            repeat (go_quiet (first | (go_at_call 53; (with_reducible refine (freightref11_isSize.calls a0 true _ A4.out).mono ?_); rintro e w' ⟨rfl, ⟨nd, rfl⟩⟩; (try first | exact ⟨rfl, _, World.drewN_drewN _ _ _⟩ | exact ⟨rfl, _, Eq.trans (World.drewN_drewN _ _ _) (congrArg (World.drewN _) (Nat.add_assoc _ _ _))⟩))); try go_wp2_with (first | (go_at_call 53; (with_reducible refine (freightref11_isSize.calls a0 true _ A4.out).mono ?_); rintro e w' ⟨rfl, ⟨nd, rfl⟩⟩; (try first | exact ⟨rfl, _, World.drewN_drewN _ _ _⟩ | exact ⟨rfl, _, Eq.trans (World.drewN_drewN _ _ _) (congrArg (World.drewN _) (Nat.add_assoc _ _ _))⟩))))
            go_ret2
            exact ⟨by first | rfl | (simp; done) | (simp [*]; done), by repeat (first | exact Drawn0.refl _ | apply Drawn0.step)⟩
          · rw [if_neg c9] at H
            have c9b0 : decide (2147483647 < a2) = false := decide_eq_false c9
            clear c9
            by_cases c10 : a0 = 0
            · rw [if_pos c10] at H
              exact absurd H (by simp)
            · rw [if_neg c10] at H
              have c10b0 : (a0 == 0) = false := beq_eq_false_iff_ne.mpr c10
              have c10b1 : (a0 != 0) = true := bne_iff_ne.mpr c10
              simp only [Option.some.injEq, Prod.mk.injEq] at H
              obtain ⟨rfl, rfl⟩ := H
              go_enter Try.func43, Try.ntmps43
              go_wp2_with (first | (go_at_call 53; (with_reducible refine (freightref11_isSize.calls a0 true _ A4.out).mono ?_); rintro e w' ⟨rfl, ⟨nd, rfl⟩⟩; (try first | exact ⟨rfl, _, World.drewN_drewN _ _ _⟩ | exact ⟨rfl, _, Eq.trans (World.drewN_drewN _ _ _) (congrArg (World.drewN _) (Nat.add_assoc _ _ _))⟩)))
              repeat (go_quiet (first | (go_at_call 53; (with_reducible refine (freightref11_isSize.calls a0 true _ A4.out).mono ?_); rintro e w' ⟨rfl, ⟨nd, rfl⟩⟩; (try first | exact ⟨rfl, _, World.drewN_drewN _ _ _⟩ | exact ⟨rfl, _, Eq.trans (World.drewN_drewN _ _ _) (congrArg (World.drewN _) (Nat.add_assoc _ _ _))⟩))); try go_wp2_with (first | (go_at_call 53; (with_reducible refine (freightref11_isSize.calls a0 true _ A4.out).mono ?_); rintro e w' ⟨rfl, ⟨nd, rfl⟩⟩; (try first | exact ⟨rfl, _, World.drewN_drewN _ _ _⟩ | exact ⟨rfl, _, Eq.trans (World.drewN_drewN _ _ _) (congrArg (World.drewN _) (Nat.add_assoc _ _ _))⟩))))
              go_ret2
              exact ⟨by first | rfl | (simp; done) | (simp [*]; done), by repeat (first | exact Drawn0.refl _ | apply Drawn0.step)⟩
  · replace c5 := Bool.eq_false_iff.mpr c5
    subst c5
    have H1 : (some (0, 0)) = some (r1, r2) := by rw [if_neg (show ¬ (false = true) by decide)] at H; exact H
    clear H
    have H := H1
    clear H1
    simp only [Option.some.injEq, Prod.mk.injEq] at H
    obtain ⟨rfl, rfl⟩ := H
    go_enter Try.func43, Try.ntmps43
    go_wp2_with (first | (go_at_call 53; (with_reducible refine (freightref11_isSize.calls a0 false _ A4.out).mono ?_); rintro e w' ⟨rfl, ⟨nd, rfl⟩⟩; (try first | exact ⟨rfl, _, World.drewN_drewN _ _ _⟩ | exact ⟨rfl, _, Eq.trans (World.drewN_drewN _ _ _) (congrArg (World.drewN _) (Nat.add_assoc _ _ _))⟩)))
    repeat (go_quiet (first | (go_at_call 53; (with_reducible refine (freightref11_isSize.calls a0 false _ A4.out).mono ?_); rintro e w' ⟨rfl, ⟨nd, rfl⟩⟩; (try first | exact ⟨rfl, _, World.drewN_drewN _ _ _⟩ | exact ⟨rfl, _, Eq.trans (World.drewN_drewN _ _ _) (congrArg (World.drewN _) (Nat.add_assoc _ _ _))⟩))); try go_wp2_with (first | (go_at_call 53; (with_reducible refine (freightref11_isSize.calls a0 false _ A4.out).mono ?_); rintro e w' ⟨rfl, ⟨nd, rfl⟩⟩; (try first | exact ⟨rfl, _, World.drewN_drewN _ _ _⟩ | exact ⟨rfl, _, Eq.trans (World.drewN_drewN _ _ _) (congrArg (World.drewN _) (Nat.add_assoc _ _ _))⟩))))
    go_ret2
    exact ⟨by first | rfl | (simp; done) | (simp [*]; done), by repeat (first | exact Drawn0.refl _ | apply Drawn0.step)⟩

end Go.Proofs.Ytoefligelajfkaa.PBlockOpens
