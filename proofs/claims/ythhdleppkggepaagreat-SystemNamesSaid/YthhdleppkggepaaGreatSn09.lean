/-
  The walks of package polynomial and its reference: which variables occur.
-/
import Derived.Test.YthhdleppkggepaaGreatSn07
import Derived.Test.YthhdleppkggepaaGreatSn08

set_option linter.unusedSimpArgs false
set_option linter.unusedVariables false
set_option linter.unusedSectionVars false

namespace Go.Proofs.YthhdleppkggepaaGreat
open Go.RowKit Go.Deep
set_option maxRecDepth 100000

def usesN (p : List (Rat × List Int)) : Nat := p.foldl (fun u t => u ||| suppN t.2) 0
theorem usesN_succ {p : List (Rat × List Int)} {k : Nat} (hk : k < p.length) : usesN (p.take (k + 1)) = usesN (p.take k) ||| suppN p[k].2 := by
  unfold usesN
  rw [List.take_succ_eq_append_getElem hk, List.foldl_append]; rfl
theorem usesN_lt {p : List (Rat × List Int)} (h : ∀ t ∈ p, suppN t.2 < 256) : usesN p < 256 := by
  unfold usesN
  have : ∀ (l : List (Rat × List Int)) (u : Nat), u < 256 → (∀ t ∈ l, suppN t.2 < 256) → l.foldl (fun u t => u ||| suppN t.2) u < 256 := by
    intro l
    induction l with
    | nil => intro u hu _; exact hu
    | cons t r ih =>
      intro u hu hl
      exact ih _ (Nat.or_lt_two_pow (n := 8) hu (hl t (by simp))) (fun v hv => hl v (by simp [hv]))
  exact this p 0 (by decide) h
theorem RP.len8 {w : World} {ex : List Nat} {A : Option Addr} {n c : Nat} {p : List (Rat × List Int)} (h : RP w ex A n c p) : Len8 p := by
  intro t ht
  obtain ⟨j, hj, rfl⟩ := List.getElem_of_mem ht
  obtain ⟨b, o, e, _, _, hc⟩ := h.at_ (by rw [h.len]; omega)
  obtain ⟨s1, A1, n1, c1, s2, A2, n2, c2, e0, e1, e2, e3, e4, e5, e6, e7, h0, h1, h2, h3, h4, h5, h6, h7, h8, h9, h10, h11, hq, hm⟩ := hc j hj
  rw [hm]; rfl
theorem suppN_lt8 {p : List (Rat × List Int)} (h : Len8 p) : ∀ t ∈ p, suppN t.2 < 256 := by
  intro t ht
  have := suppN_lt t.2
  rwa [h t ht] at this

set_option maxHeartbeats 2000000 in
theorem r6uses_ok (w : World) (ex : List Nat) (A : Option Addr) (n c : Nat) (p : List (Rat × List Int)) (hx : RP w ex A n c p) (hp : PExps p) (hn : n ≤ 1000000000) :
    Calls Tryz.prog 148 #[.slice A n c] w (RetV w (.int .u8 (usesN p : Nat))) := by
  have HL := Lib.hid hx.len
  have HS := Lib.hid (suppN_lt8 hx.len8)
  have hcap := hx.cap
  have HP := Lib.hid hp
  clear hp
  go_enter Tryz.func148, Tryz.ntmps148
  go_wp2_with fail
  go_loopw [3, 4] (fun d i wr => ∃ k : Nat, k ≤ n ∧ i = .int .i64 k ∧ d = .int .u8 (usesN (p.take k) : Nat) ∧ Below w.heap.size w wr) (fun _ i _ => n - (intOf i).toNat)
  case atStart => exact ⟨0, Nat.zero_le _, rfl, rfl, Below.refl _ _⟩
  case round =>
    obtain ⟨k, hk, rfl, rfl, hb⟩ := hrel
    by_cases hlt : k < n
    · have hxw := hx.mono (Kr.of_below hb ex)
      obtain ⟨b, o, rfl, hbx, hbl, ht⟩ := hxw.at_ (by omega)
      have hkp : k < p.length := by have := HL.out; omega
      obtain ⟨s1, A1, n1, c1, s2, A2, n2, c2, e0, e1, e2, e3, e4, e5, e6, e7, h0, h1, h2, h3, h4, h5, h6, h7, h8, h9, h10, h11, hq, hm⟩ := ht k hkp
      have hd1 : wr.cell? ⟨b, o + k * 12 + 4 + 1, none⟩ = some (.int .i64 e1) := h5
      have hd2 : wr.cell? ⟨b, o + k * 12 + 4 + 2, none⟩ = some (.int .i64 e2) := h6
      have hd3 : wr.cell? ⟨b, o + k * 12 + 4 + 3, none⟩ = some (.int .i64 e3) := h7
      have hd4 : wr.cell? ⟨b, o + k * 12 + 4 + 4, none⟩ = some (.int .i64 e4) := h8
      have hd5 : wr.cell? ⟨b, o + k * 12 + 4 + 5, none⟩ = some (.int .i64 e5) := h9
      have hd6 : wr.cell? ⟨b, o + k * 12 + 4 + 6, none⟩ = some (.int .i64 e6) := h10
      have hd7 : wr.cell? ⟨b, o + k * 12 + 4 + 7, none⟩ = some (.int .i64 e7) := h11
      have hE : Exps [e0, e1, e2, e3, e4, e5, e6, e7] := by rw [← hm]; exact HP.out _ (List.getElem_mem hkp)
      have hst := usesN_succ hkp
      have hb1 := usesN_lt (p := p.take k) (fun t ht => HS.out t (List.mem_of_mem_take ht))
      have hb2 : suppN [e0, e1, e2, e3, e4, e5, e6, e7] < 256 := by rw [← hm]; exact HS.out _ (List.getElem_mem hkp)
      have hor := or8_val _ _ hb1 hb2
      rw [hm] at hst
      have HM := Lib.hid hm
      clear h0 h1 h2 h3 h5 h6 h7 h8 h9 h10 h11 hm ht
      obtain ⟨d, hd⟩ : ∃ d : Nat, usesN (p.take k) = d := ⟨_, rfl⟩
      rw [hd] at hst hor ⊢
      clear hd hb1 hb2
      have HST := Lib.hid hst
      clear hst
      go_wp2_with fail
      refine (r4support_ok _ _ _ _ _ _ _ _ _ hE).mono ?_; rintro e w1 ⟨X, D, rfl, rfl⟩
      obtain ⟨s, hs⟩ : ∃ s : Nat, suppN [e0, e1, e2, e3, e4, e5, e6, e7] = s := ⟨_, rfl⟩
      rw [hs] at hor HST ⊢
      clear hs hE
      go_wp2_with fail
      go_roundw
      case rel => exact ⟨k + 1, by omega, by go_num, by rw [HST.out], Below.more hb hb.size _ _⟩
      case measure => simp [intOf]; omega
    · obtain rfl : k = n := by omega
      go_wp2_with fail
      go_ret
      refine RetV.mk ?_ hb
      rw [List.take_of_length_le (by have := HL.out; omega)]; rfl

set_option maxHeartbeats 2000000 in
theorem puses_ok (w : World) (ex : List Nat) (A : Option Addr) (n c : Nat) (p : List (Rat × List Int)) (hx : RP w ex A n c p) (hp : PExps p) (hn : n ≤ 1000000000) :
    Calls Tryz.prog 89 #[.slice A n c] w (RetV w (.int .u8 (usesN p : Nat))) := by
  have HL := Lib.hid hx.len
  have HS := Lib.hid (suppN_lt8 hx.len8)
  have hcap := hx.cap
  have HP := Lib.hid hp
  clear hp
  go_enter Tryz.func89, Tryz.ntmps89
  go_wp2_with fail
  go_loopw [3, 8] (fun d i wr => ∃ k : Nat, k ≤ n ∧ i = .int .i64 k ∧ d = .int .u8 (usesN (p.take k) : Nat) ∧ Below w.heap.size w wr) (fun _ i _ => n - (intOf i).toNat)
  case atStart => exact ⟨0, Nat.zero_le _, rfl, rfl, Below.refl _ _⟩
  case round =>
    obtain ⟨k, hk, rfl, rfl, hb⟩ := hrel
    by_cases hlt : k < n
    · have hxw := hx.mono (Kr.of_below hb ex)
      obtain ⟨b, o, rfl, hbx, hbl, ht⟩ := hxw.at_ (by omega)
      have hkp : k < p.length := by have := HL.out; omega
      obtain ⟨s1, A1, n1, c1, s2, A2, n2, c2, e0, e1, e2, e3, e4, e5, e6, e7, h0, h1, h2, h3, h4, h5, h6, h7, h8, h9, h10, h11, hq, hm⟩ := ht k hkp
      have hE : Exps [e0, e1, e2, e3, e4, e5, e6, e7] := by rw [← hm]; exact HP.out _ (List.getElem_mem hkp)
      have hst := usesN_succ hkp
      have hb1 := usesN_lt (p := p.take k) (fun t ht => HS.out t (List.mem_of_mem_take ht))
      have hb2 : suppN [e0, e1, e2, e3, e4, e5, e6, e7] < 256 := by rw [← hm]; exact HS.out _ (List.getElem_mem hkp)
      have hor := or8_val _ _ hb1 hb2
      rw [hm] at hst
      have HM := Lib.hid hm
      clear hm ht
      obtain ⟨d, hd⟩ : ∃ d : Nat, usesN (p.take k) = d := ⟨_, rfl⟩
      rw [hd] at hst hor ⊢
      clear hd hb1 hb2
      have hsz := hb.size
      have HST := Lib.hid hst
      clear hst
      go_wp2_with fail
      refine (msupport_ok _ _ _ _ _ _ _ _ _ hE).mono ?_; rintro e w1 ⟨X, D, rfl, rfl⟩
      obtain ⟨s, hs⟩ : ∃ s : Nat, suppN [e0, e1, e2, e3, e4, e5, e6, e7] = s := ⟨_, rfl⟩
      rw [hs] at hor HST ⊢
      clear hs hE
      go_wp2_with fail
      go_roundw
      case rel => exact ⟨k + 1, by omega, by go_num, by rw [HST.out], (by repeat (first | (with_reducible exact Below.refl _ _) | (with_reducible assumption) | refine Below.setCell ?_ (by first | (simp; done) | (simp; omega) | omega) _ | refine Below.more ?_ (by first | (simp; done) | (simp; omega) | omega) _ _ | refine Below.alloc ?_ (by first | (simp; done) | (simp; omega) | omega) _ | refine Below.drew ?_ | refine Below.drewN ?_ _))⟩
      case measure => simp [intOf]; omega
    · obtain rfl : k = n := by omega
      go_wp2_with fail
      go_ret
      refine RetV.mk ?_ hb
      rw [List.take_of_length_le (by have := HL.out; omega)]; rfl

end Go.Proofs.YthhdleppkggepaaGreat

/-
  The walks of package rational: reduction.
-/
namespace Go.Proofs.YthhdleppkggepaaGreat
open Go.RowKit Go.Deep
set_option maxRecDepth 100000

set_option maxHeartbeats 2000000 in
theorem lowest_ok (w : World) (ex : List Nat) (s1 : Bool) (A1 : Option Addr) (n1 c1 : Nat) (a : Int) (s2 : Bool) (A2 : Option Addr) (n2 c2 : Nat) (d : Int)
    (hx : RI w ex s1 A1 n1 c1 a) (hy : RI w ex s2 A2 n2 c2 d) (hd : d ≠ 0) (hw : Wee d.natAbs) (hn1 : n1 ≤ 1000000) (hn2 : n2 ≤ 1000000) (hex : ∀ b ∈ ex, b < w.heap.size) :
    Calls Tryz.prog 164 #[.agg #[.bool s1, .slice A1 n1 c1], .agg #[.bool s2, .slice A2 n2 c2]] w (RetQ w ex (Rat.divInt a d)) := by
  have HLg : Hid (∀ m, m = wl (Int.gcd a d : Int) → m ≤ 1000000) := by
    rintro m rfl
    have h1 := hx.len; have h2 := hy.len
    have := wl_gcd_le a d
    omega
  have HG0 : Hid ((Int.gcd a d : Int) ≠ 0) := gcd_ne hd
  have HGw : Hid (Wee (Int.gcd a d : Int).natAbs) := by show Wee _; rw [Int.natAbs_natCast]; exact hw.le (gcd_natAbs_le hd)
  by_cases hneg : d < 0
  · have HE := Lib.hid (lowest_neg (a := a) hneg : _ ∧ _)
    have hsg : d.sign = -1 := Int.sign_eq_neg_one_of_neg hneg
    have HD := Lib.hid hd
    clear hd hneg
    go_enter Tryz.func164, Tryz.ntmps164
    go_wp2_with fail
    refine (gcd_ok _ ([w.heap.size, w.heap.size + 1, w.heap.size + 2] ++ ex) _ _ _ _ _ _ _ _ _ _ (hx.mono (Kr.fresh (l := [w.heap.size, w.heap.size + 1, w.heap.size + 2]) (by repeat (first | (with_reducible exact Below.refl _ _) | (with_reducible assumption) | refine Below.setCell ?_ (by first | (simp; done) | (simp; omega) | omega) _ | refine Below.more ?_ (by first | (simp; done) | (simp; omega) | omega) _ _ | refine Below.alloc ?_ (by first | (simp; done) | (simp; omega) | omega) _ | refine Below.drew ?_ | refine Below.drewN ?_ _)) (by simp))) (hy.mono (Kr.fresh (l := [w.heap.size, w.heap.size + 1, w.heap.size + 2]) (by repeat (first | (with_reducible exact Below.refl _ _) | (with_reducible assumption) | refine Below.setCell ?_ (by first | (simp; done) | (simp; omega) | omega) _ | refine Below.more ?_ (by first | (simp; done) | (simp; omega) | omega) _ _ | refine Below.alloc ?_ (by first | (simp; done) | (simp; omega) | omega) _ | refine Below.drew ?_ | refine Below.drewN ?_ _)) (by simp))) hw (by omega) (by omega) (hexs hex (by first | (simp; done) | (simp; omega) | omega) (by first | (simp; done) | (simp; omega) | omega))).mono ?_; rintro e w1 ⟨sg, Ag, mg, cg, X, D, rfl, rfl, hg⟩
    have hgl := HLg.out _ hg.len
    go_wp2_with fail
    refine (sign_ok _ ex _ _ _ _ _ (hy.mono (Kr.fresh (l := []) (by repeat (first | (with_reducible exact Below.refl _ _) | (with_reducible assumption) | refine Below.setCell ?_ (by first | (simp; done) | (simp; omega) | omega) _ | refine Below.more ?_ (by first | (simp; done) | (simp; omega) | omega) _ _ | refine Below.alloc ?_ (by first | (simp; done) | (simp; omega) | omega) _ | refine Below.drew ?_ | refine Below.drewN ?_ _)) (by simp)))).mono ?_; rintro e w1 ⟨X2, D2, rfl, rfl⟩
    rw [hsg]
    go_wp2_with fail
    refine (ineg_ok _ ([w.heap.size + 3 + X.size, w.heap.size, w.heap.size + 1, w.heap.size + 2] ++ ex) _ _ _ _ _ (hg.mono (Kr.fresh (l := [w.heap.size + 3 + X.size]) (by repeat (first | (with_reducible exact Below.refl _ _) | (with_reducible assumption) | refine Below.setCell ?_ (by first | (simp; done) | (simp; omega) | omega) _ | refine Below.more ?_ (by first | (simp; done) | (simp; omega) | omega) _ _ | refine Below.alloc ?_ (by first | (simp; done) | (simp; omega) | omega) _ | refine Below.drew ?_ | refine Below.drewN ?_ _)) (by first | (simp; done) | (simp; omega) | omega))) (by omega) (hexs hex (by first | (simp; done) | (simp; omega) | omega) (by first | (simp; done) | (simp; omega) | omega))).mono ?_; rintro e w1 ⟨sh, Ah, mh, ch, X3, D3, rfl, rfl, hh⟩
    have hhl : mh ≤ 1000000 := by have := hh.len; rw [wl_neg] at this; exact HLg.out _ this
    go_wp2_with fail
    refine (divmod_ok _ ([w.heap.size + 3 + X.size, w.heap.size, w.heap.size + 1, w.heap.size + 2] ++ ex) _ _ _ _ _ _ _ _ _ _ (hx.mono (Kr.fresh (l := [w.heap.size + 3 + X.size, w.heap.size, w.heap.size + 1, w.heap.size + 2]) (by repeat (first | (with_reducible exact Below.refl _ _) | (with_reducible assumption) | refine Below.setCell ?_ (by first | (simp; done) | (simp; omega) | omega) _ | refine Below.more ?_ (by first | (simp; done) | (simp; omega) | omega) _ _ | refine Below.alloc ?_ (by first | (simp; done) | (simp; omega) | omega) _ | refine Below.drew ?_ | refine Below.drewN ?_ _)) (by first | (simp; done) | (simp; omega) | omega))) (hh.mono (by repeat (first | (with_reducible exact Kr.refl _ _) | (with_reducible assumption) | refine Kr.setCell ?_ _ (by simp) | refine Kr.more ?_ _ _ | refine Kr.alloc_ ?_ _ | refine Kr.drew ?_ | refine Kr.drewN ?_ _))) (by have := HG0.out; omega) (by rw [Int.natAbs_neg]; exact HGw.out) (by omega) (by omega) (hexs hex (by first | (simp; done) | (simp; omega) | omega) (by first | (simp; done) | (simp; omega) | omega))).mono ?_; rintro e w1 ⟨sq, Aq, mq, cq, sr, Ar, mr, cr, X4, D4, rfl, rfl, hq, hr⟩
    go_wp2_with fail
    refine (divmod_ok _ ([w.heap.size + 3 + X.size, w.heap.size, w.heap.size + 1, w.heap.size + 2] ++ ex) _ _ _ _ _ _ _ _ _ _ (hy.mono (Kr.fresh (l := [w.heap.size + 3 + X.size, w.heap.size, w.heap.size + 1, w.heap.size + 2]) (by repeat (first | (with_reducible exact Below.refl _ _) | (with_reducible assumption) | refine Below.setCell ?_ (by first | (simp; done) | (simp; omega) | omega) _ | refine Below.more ?_ (by first | (simp; done) | (simp; omega) | omega) _ _ | refine Below.alloc ?_ (by first | (simp; done) | (simp; omega) | omega) _ | refine Below.drew ?_ | refine Below.drewN ?_ _)) (by first | (simp; done) | (simp; omega) | omega))) (hh.mono (by repeat (first | (with_reducible exact Kr.refl _ _) | (with_reducible assumption) | refine Kr.setCell ?_ _ (by simp) | refine Kr.more ?_ _ _ | refine Kr.alloc_ ?_ _ | refine Kr.drew ?_ | refine Kr.drewN ?_ _))) (by have := HG0.out; omega) (by rw [Int.natAbs_neg]; exact HGw.out) (by omega) (by omega) (hexs hex (by first | (simp; done) | (simp; omega) | omega) (by first | (simp; done) | (simp; omega) | omega))).mono ?_; rintro e w1 ⟨sq2, Aq2, mq2, cq2, sr2, Ar2, mr2, cr2, X5, D5, rfl, rfl, hq2, hr2⟩
    go_wp2_with fail
    refine bodyPost_ret (v := .agg #[.bool sq, .slice Aq mq cq, .bool sq2, .slice Aq2 mq2 cq2]) (by simp [results, Tryz.results164, go_sem, ↓IntWalk.iteOmega]) rfl (RetQ.mk rfl (by repeat (first | (with_reducible exact Below.refl _ _) | (with_reducible assumption) | refine Below.setCell ?_ (by first | (simp; done) | (simp; omega) | omega) _ | refine Below.more ?_ (by first | (simp; done) | (simp; omega) | omega) _ _ | refine Below.alloc ?_ (by first | (simp; done) | (simp; omega) | omega) _ | refine Below.drew ?_ | refine Below.drewN ?_ _)) ?_ ?_)
    · rw [HE.out.1] at hq; exact hq.mono (Kr.down (by repeat (first | (with_reducible exact Kr.refl _ _) | (with_reducible assumption) | refine Kr.setCell ?_ _ (by simp) | refine Kr.more ?_ _ _ | refine Kr.alloc_ ?_ _ | refine Kr.drew ?_ | refine Kr.drewN ?_ _)) (by first | (intro b hb; simp [hb]; done) | (intro b hb; exact hb) | (intro b hb; simp at hb ⊢; grind)))
    · rw [HE.out.2] at hq2; exact hq2.mono (Kr.down (by repeat (first | (with_reducible exact Kr.refl _ _) | (with_reducible assumption) | refine Kr.setCell ?_ _ (by simp) | refine Kr.more ?_ _ _ | refine Kr.alloc_ ?_ _ | refine Kr.drew ?_ | refine Kr.drewN ?_ _)) (by first | (intro b hb; simp [hb]; done) | (intro b hb; exact hb) | (intro b hb; simp at hb ⊢; grind)))
  · have HE := Lib.hid (lowest_pos (a := a) (d := d) (by omega) : _ ∧ _)
    have hsg : d.sign = 1 := Int.sign_eq_one_of_pos (by omega)
    have HD := Lib.hid hd
    clear hd hneg
    go_enter Tryz.func164, Tryz.ntmps164
    go_wp2_with fail
    refine (gcd_ok _ ([w.heap.size, w.heap.size + 1, w.heap.size + 2] ++ ex) _ _ _ _ _ _ _ _ _ _ (hx.mono (Kr.fresh (l := [w.heap.size, w.heap.size + 1, w.heap.size + 2]) (by repeat (first | (with_reducible exact Below.refl _ _) | (with_reducible assumption) | refine Below.setCell ?_ (by first | (simp; done) | (simp; omega) | omega) _ | refine Below.more ?_ (by first | (simp; done) | (simp; omega) | omega) _ _ | refine Below.alloc ?_ (by first | (simp; done) | (simp; omega) | omega) _ | refine Below.drew ?_ | refine Below.drewN ?_ _)) (by simp))) (hy.mono (Kr.fresh (l := [w.heap.size, w.heap.size + 1, w.heap.size + 2]) (by repeat (first | (with_reducible exact Below.refl _ _) | (with_reducible assumption) | refine Below.setCell ?_ (by first | (simp; done) | (simp; omega) | omega) _ | refine Below.more ?_ (by first | (simp; done) | (simp; omega) | omega) _ _ | refine Below.alloc ?_ (by first | (simp; done) | (simp; omega) | omega) _ | refine Below.drew ?_ | refine Below.drewN ?_ _)) (by simp))) hw (by omega) (by omega) (hexs hex (by first | (simp; done) | (simp; omega) | omega) (by first | (simp; done) | (simp; omega) | omega))).mono ?_; rintro e w1 ⟨sg, Ag, mg, cg, X, D, rfl, rfl, hg⟩
    have hgl := HLg.out _ hg.len
    go_wp2_with fail
    refine (sign_ok _ ex _ _ _ _ _ (hy.mono (Kr.fresh (l := []) (by repeat (first | (with_reducible exact Below.refl _ _) | (with_reducible assumption) | refine Below.setCell ?_ (by first | (simp; done) | (simp; omega) | omega) _ | refine Below.more ?_ (by first | (simp; done) | (simp; omega) | omega) _ _ | refine Below.alloc ?_ (by first | (simp; done) | (simp; omega) | omega) _ | refine Below.drew ?_ | refine Below.drewN ?_ _)) (by simp)))).mono ?_; rintro e w1 ⟨X2, D2, rfl, rfl⟩
    rw [hsg]
    go_wp2_with fail
    have hhl := hgl
    have hh := hg
    refine (divmod_ok _ ([w.heap.size + 3 + X.size, w.heap.size, w.heap.size + 1, w.heap.size + 2] ++ ex) _ _ _ _ _ _ _ _ _ _ (hx.mono (Kr.fresh (l := [w.heap.size + 3 + X.size, w.heap.size, w.heap.size + 1, w.heap.size + 2]) (by repeat (first | (with_reducible exact Below.refl _ _) | (with_reducible assumption) | refine Below.setCell ?_ (by first | (simp; done) | (simp; omega) | omega) _ | refine Below.more ?_ (by first | (simp; done) | (simp; omega) | omega) _ _ | refine Below.alloc ?_ (by first | (simp; done) | (simp; omega) | omega) _ | refine Below.drew ?_ | refine Below.drewN ?_ _)) (by first | (simp; done) | (simp; omega) | omega))) (hh.mono (Kr.add (l := [w.heap.size + 3 + X.size]) (ex' := [w.heap.size, w.heap.size + 1, w.heap.size + 2] ++ ex) (by repeat (first | (with_reducible exact Kr.refl _ _) | (with_reducible assumption) | refine Kr.setCell ?_ _ (by simp) | refine Kr.more ?_ _ _ | refine Kr.alloc_ ?_ _ | refine Kr.drew ?_ | refine Kr.drewN ?_ _)) (by first | (simp; done) | (simp; omega) | omega))) HG0.out HGw.out (by omega) (by omega) (hexs hex (by first | (simp; done) | (simp; omega) | omega) (by first | (simp; done) | (simp; omega) | omega))).mono ?_; rintro e w1 ⟨sq, Aq, mq, cq, sr, Ar, mr, cr, X4, D4, rfl, rfl, hq, hr⟩
    go_wp2_with fail
    refine (divmod_ok _ ([w.heap.size + 3 + X.size, w.heap.size, w.heap.size + 1, w.heap.size + 2] ++ ex) _ _ _ _ _ _ _ _ _ _ (hy.mono (Kr.fresh (l := [w.heap.size + 3 + X.size, w.heap.size, w.heap.size + 1, w.heap.size + 2]) (by repeat (first | (with_reducible exact Below.refl _ _) | (with_reducible assumption) | refine Below.setCell ?_ (by first | (simp; done) | (simp; omega) | omega) _ | refine Below.more ?_ (by first | (simp; done) | (simp; omega) | omega) _ _ | refine Below.alloc ?_ (by first | (simp; done) | (simp; omega) | omega) _ | refine Below.drew ?_ | refine Below.drewN ?_ _)) (by first | (simp; done) | (simp; omega) | omega))) (hh.mono (Kr.add (l := [w.heap.size + 3 + X.size]) (ex' := [w.heap.size, w.heap.size + 1, w.heap.size + 2] ++ ex) (by repeat (first | (with_reducible exact Kr.refl _ _) | (with_reducible assumption) | refine Kr.setCell ?_ _ (by simp) | refine Kr.more ?_ _ _ | refine Kr.alloc_ ?_ _ | refine Kr.drew ?_ | refine Kr.drewN ?_ _)) (by first | (simp; done) | (simp; omega) | omega))) HG0.out HGw.out (by omega) (by omega) (hexs hex (by first | (simp; done) | (simp; omega) | omega) (by first | (simp; done) | (simp; omega) | omega))).mono ?_; rintro e w1 ⟨sq2, Aq2, mq2, cq2, sr2, Ar2, mr2, cr2, X5, D5, rfl, rfl, hq2, hr2⟩
    go_wp2_with fail
    refine bodyPost_ret (v := .agg #[.bool sq, .slice Aq mq cq, .bool sq2, .slice Aq2 mq2 cq2]) (by simp [results, Tryz.results164, go_sem, ↓IntWalk.iteOmega]) rfl (RetQ.mk rfl (by repeat (first | (with_reducible exact Below.refl _ _) | (with_reducible assumption) | refine Below.setCell ?_ (by first | (simp; done) | (simp; omega) | omega) _ | refine Below.more ?_ (by first | (simp; done) | (simp; omega) | omega) _ _ | refine Below.alloc ?_ (by first | (simp; done) | (simp; omega) | omega) _ | refine Below.drew ?_ | refine Below.drewN ?_ _)) ?_ ?_)
    · rw [HE.out.1] at hq; exact hq.mono (Kr.down (by repeat (first | (with_reducible exact Kr.refl _ _) | (with_reducible assumption) | refine Kr.setCell ?_ _ (by simp) | refine Kr.more ?_ _ _ | refine Kr.alloc_ ?_ _ | refine Kr.drew ?_ | refine Kr.drewN ?_ _)) (by first | (intro b hb; simp [hb]; done) | (intro b hb; exact hb) | (intro b hb; simp at hb ⊢; grind)))
    · rw [HE.out.2] at hq2; exact hq2.mono (Kr.down (by repeat (first | (with_reducible exact Kr.refl _ _) | (with_reducible assumption) | refine Kr.setCell ?_ _ (by simp) | refine Kr.more ?_ _ _ | refine Kr.alloc_ ?_ _ | refine Kr.drew ?_ | refine Kr.drewN ?_ _)) (by first | (intro b hb; simp [hb]; done) | (intro b hb; exact hb) | (intro b hb; simp at hb ⊢; grind)))

end Go.Proofs.YthhdleppkggepaaGreat
