/-
  The walks of the reference of package rational: order.
-/
import Derived.Test.YthhdleppkggepaaGreatSb10
import Derived.Test.YthhdleppkggepaaGreatSb11
import Derived.Test.YthhdleppkggepaaGreatSb09
import Derived.Test.YthhdleppkggepaaGreatSb06
import Derived.Test.YthhdleppkggepaaGreatSb18

set_option linter.unusedSimpArgs false
set_option linter.unusedVariables false
set_option linter.unusedSectionVars false

namespace Go.Proofs.YthhdleppkggepaaGreat
open Go.RowKit Go.Deep
set_option maxRecDepth 100000

set_option maxHeartbeats 1000000 in
theorem r2cmp_ok (w : World) (ex : List Nat) (s1 : Bool) (A1 : Option Addr) (n1 c1 : Nat) (s2 : Bool) (A2 : Option Addr) (n2 c2 : Nat) (a : Rat) (s3 : Bool) (A3 : Option Addr) (n3 c3 : Nat) (s4 : Bool) (A4 : Option Addr) (n4 c4 : Nat) (b : Rat)
    (hx : RQ w ex s1 A1 n1 c1 s2 A2 n2 c2 a) (hy : RQ w ex s3 A3 n3 c3 s4 A4 n4 c4 b) (ha : Few a) (hb : Few b) :
    Calls Tryz.prog 152 #[.agg #[.bool s1, .slice A1 n1 c1, .bool s2, .slice A2 n2 c2], .agg #[.bool s3, .slice A3 n3 c3, .bool s4, .slice A4 n4 c4]] w (RetV w (.int .i64 (cmpQ a b))) := by
  have hn1 : n1 ≤ 400000 := by rw [hx.num.len]; exact ha.1
  have hn2 : n2 ≤ 400000 := by rw [hx.den.len]; exact ha.2
  have hn3 : n3 ≤ 400000 := by rw [hy.num.len]; exact hb.1
  have hn4 : n4 ≤ 400000 := by rw [hy.den.len]; exact hb.2
  have HN1 : Hid (∀ m, m = wl (a.num * b.den) → m ≤ 1000000) := by
    rintro m rfl; have := wl_mul a.num b.den; have := ha.1; have := hb.2; omega
  have HN2 : Hid (∀ m, m = wl (b.num * a.den) → m ≤ 1000000) := by
    rintro m rfl; have := wl_mul b.num a.den; have := hb.1; have := ha.2; omega
  go_enter Tryz.func152, Tryz.ntmps152
  go_wp2_with fail
  go_region_held3 (fun w' => w'.cell? ⟨w.heap.size, 0, none⟩ = some (.bool s1) ∧ w'.cell? ⟨w.heap.size, 1, none⟩ = some (.slice A1 n1 c1) ∧ w'.cell? ⟨w.heap.size, 2, none⟩ = some (.bool s2) ∧ w'.cell? ⟨w.heap.size, 3, none⟩ = some (.slice A2 n2 c2) ∧ w'.cell? ⟨w.heap.size + 1, 0, none⟩ = some (.bool s3) ∧ w'.cell? ⟨w.heap.size + 1, 1, none⟩ = some (.slice A3 n3 c3) ∧ w'.cell? ⟨w.heap.size + 1, 2, none⟩ = some (.bool s4) ∧ w'.cell? ⟨w.heap.size + 1, 3, none⟩ = some (.slice A4 n4 c4))
    ((repeat' apply And.intro) <;> first | (simp [*, go_sem, ↓IntWalk.iteOmega]; done) | (refine got_of ?_; simp [*, go_sem, ↓IntWalk.iteOmega]; done))
    (first | (go_at_call 64; have hgo := Lib.hid hN1; refine (r1imul_ok _ [] _ _ _ _ _ _ _ _ _ _ (hy.num.mono ((Kr.of_below (by repeat first | with_reducible exact .refl .. | with_reducible assumption | refine .s ?_ ?_ | refine .m ?_ ?_ | refine .l ?_ ?_ | refine .d ?_ | refine .e ?_ | (simp <;> omega) | omega) ex).sub (by simp))) (hx.den.mono ((Kr.of_below (by repeat first | with_reducible exact .refl .. | with_reducible assumption | refine .s ?_ ?_ | refine .m ?_ ?_ | refine .l ?_ ?_ | refine .d ?_ | refine .e ?_ | (simp <;> omega) | omega) ex).sub (by simp))) (by omega) (by omega) (by simp)).mono ?_; rintro e w' ⟨sn2, An2, mn2, cn2, XN2, DN2, rfl, rfl, hN2⟩) | (go_at_call 64; refine (r1imul_ok _ [] _ _ _ _ _ _ _ _ _ _ (hx.num.mono ((Kr.of_below (by repeat first | with_reducible exact .refl .. | with_reducible assumption | refine .s ?_ ?_ | refine .m ?_ ?_ | refine .l ?_ ?_ | refine .d ?_ | refine .e ?_ | (simp <;> omega) | omega) ex).sub (by simp))) (hy.den.mono ((Kr.of_below (by repeat first | with_reducible exact .refl .. | with_reducible assumption | refine .s ?_ ?_ | refine .m ?_ ?_ | refine .l ?_ ?_ | refine .d ?_ | refine .e ?_ | (simp <;> omega) | omega) ex).sub (by simp))) (by omega) (by omega) (by simp)).mono ?_; rintro e w' ⟨sn1, An1, mn1, cn1, XN1, DN1, rfl, rfl, hN1⟩) | (go_at_call 191; refine (r1icmp_ok _ [] _ _ _ _ _ _ _ _ _ _ (hN1.mono (by repeat (first | (with_reducible exact Kr.refl _ _) | (with_reducible assumption) | refine Kr.setCell ?_ _ (by simp) | refine Kr.more ?_ _ _ | refine Kr.alloc_ ?_ _ | refine Kr.drew ?_ | refine Kr.drewN ?_ _))) (hN2.mono (by repeat (first | (with_reducible exact Kr.refl _ _) | (with_reducible assumption) | refine Kr.setCell ?_ _ (by simp) | refine Kr.more ?_ _ _ | refine Kr.alloc_ ?_ _ | refine Kr.drew ?_ | refine Kr.drewN ?_ _))) (by have := HN1.out _ hN1.len; omega) (by have := HN2.out _ hN2.len; omega)).mono ?_; rintro e w' ⟨X6, D6, rfl, rfl⟩; rw [cmpQ_law]))
  all_goals
    go_wp2_with fail
    go_ret
    exact RetV.mk rfl (by repeat first | with_reducible exact .refl .. | with_reducible assumption | refine .s ?_ ?_ | refine .m ?_ ?_ | refine .l ?_ ?_ | refine .d ?_ | refine .e ?_ | (simp <;> omega) | omega)


end Go.Proofs.YthhdleppkggepaaGreat

/-
  The walk of the reference of package rational: equality of integers, word by word.
-/
namespace Go.Proofs.YthhdleppkggepaaGreat
open Go.RowKit Go.Deep
set_option maxRecDepth 100000

theorem digits_inj {a b : Nat} (h : digits a = digits b) : a = b := by rw [← val_digits a, ← val_digits b, h]

set_option maxHeartbeats 2000000 in
theorem r2same1_ok (w : World) (ex : List Nat) (s1 : Bool) (A1 : Option Addr) (n1 c1 : Nat) (a : Int) (s2 : Bool) (A2 : Option Addr) (n2 c2 : Nat) (b : Int)
    (hx : RI w ex s1 A1 n1 c1 a) (hy : RI w ex s2 A2 n2 c2 b) (hn1 : n1 ≤ 1000000000) :
    Calls Tryz.prog 168 #[.agg #[.bool s1, .slice A1 n1 c1], .agg #[.bool s2, .slice A2 n2 c2]] w (RetV w (.bool (decide (a = b)))) := by
  have hs1 := hx.sign
  have hs2 := hy.sign
  have hl1 := hx.2.len
  have hl2 := hy.2.len
  by_cases hs : s1 = s2
  · by_cases hn : n1 = n2
    · subst hs
      subst hn
      have HA : Hid (a.natAbs = b.natAbs → a = b) := by
        intro he
        rw [hs1] at hs2
        by_cases h1 : a < 0 <;> by_cases h2 : b < 0 <;> simp [h1, h2] at hs2 <;> omega
      have HL : Hid (n1 = (digits a.natAbs).length ∧ n1 = (digits b.natAbs).length) := ⟨hl1, hl2⟩
      clear hs1 hs2 hl1 hl2
      go_enter Tryz.func168, Tryz.ntmps168
      go_wp2_with fail
      go_loopw [5] (fun i wr => ∃ k : Nat, k ≤ n1 ∧ i = .int .i64 k ∧ Hid ((digits a.natAbs).take k = (digits b.natAbs).take k) ∧
        ∃ D, wr = (((w.alloc (.cells #[.bool s1, .slice A1 n1 c1] 57)).alloc (.cells #[.bool s1, .slice A2 n1 c2] 57))).drewN D) (fun i _ => n1 - (intOf i).toNat)
      case atStart => exact ⟨0, Nat.zero_le _, rfl, rfl, 0, rfl⟩
      case round =>
        obtain ⟨k, hk, rfl, HT, D, rfl⟩ := hrel
        by_cases hlt : k < n1
        · obtain ⟨bx, ox, rfl, hbx, hcx⟩ := hx.2.at_ (by omega)
          obtain ⟨by_, oy, rfl, hby, hcy⟩ := hy.2.at_ (by omega)
          have hk1 : k < (digits a.natAbs).length := by have := HL.out; omega
          have hk2 : k < (digits b.natAbs).length := by have := HL.out; omega
          have hcellx := hcx _ hk1
          have hcelly := hcy _ hk2
          clear hcx hcy
          obtain ⟨x, hx0⟩ : ∃ x : Nat, (digits a.natAbs)[k] = x := ⟨_, rfl⟩
          obtain ⟨y, hy0⟩ : ∃ y : Nat, (digits b.natAbs)[k] = y := ⟨_, rfl⟩
          rw [hx0] at hcellx
          rw [hy0] at hcelly
          have HX := Lib.hid (And.intro hx0 hy0); clear hx0 hy0
          by_cases hxy : x = y
          · have hq : ((x : Int) != (y : Int)) = false := by simp [hxy]
            have HQ := Lib.hid hxy; clear hxy
            go_wp2_with fail
            go_quiet (fail)
            go_wp2_with fail
            go_roundw
            case rel =>
              refine ⟨k + 1, by omega, by go_num, ?_, _, by first | rfl | (simp only [World.drewN_drewN]; rfl)⟩
              show _ = _
              rw [List.take_succ_eq_append_getElem hk1, List.take_succ_eq_append_getElem hk2, HT.out, HX.out.1, HX.out.2, HQ.out]
            case measure => simp [intOf]; omega
          · have hq : ((x : Int) != (y : Int)) = true := by simp; omega
            have HQ := Lib.hid hxy; clear hxy
            go_wp2_with fail
            go_quiet (fail)
            go_wp2_with fail
            go_ret
            refine RetV.mk ?_ (by repeat first | with_reducible exact .refl .. | with_reducible assumption | refine .s ?_ ?_ | refine .m ?_ ?_ | refine .l ?_ ?_ | refine .d ?_ | refine .e ?_ | (simp <;> omega) | omega)
            rw [decide_eq_false (by
              rintro rfl
              exact HQ.out (HX.out.1.symm.trans HX.out.2))]
            rfl
        · obtain rfl : k = n1 := by omega
          go_wp2_with fail
          go_ret
          refine RetV.mk ?_ (by repeat first | with_reducible exact .refl .. | with_reducible assumption | refine .s ?_ ?_ | refine .m ?_ ?_ | refine .l ?_ ?_ | refine .d ?_ | refine .e ?_ | (simp <;> omega) | omega)
          have h1 := HT.out
          rw [List.take_of_length_le (by have := HL.out; omega), List.take_of_length_le (by have := HL.out; omega)] at h1
          rw [decide_eq_true (HA.out (digits_inj h1))]
          rfl
    · have hq : ((n1 : Int) != (n2 : Int)) = true := by simp; omega
      have HN : Hid (¬ a = b) := by
        rintro rfl; exact hn (hl1.trans hl2.symm)
      subst hs
      clear hs1 hs2 hl1 hl2 hn
      go_enter Tryz.func168, Tryz.ntmps168
      go_wp2_with fail
      go_ret
      exact RetV.mk (by rw [decide_eq_false HN.out]; rfl) (by repeat first | with_reducible exact .refl .. | with_reducible assumption | refine .s ?_ ?_ | refine .m ?_ ?_ | refine .l ?_ ?_ | refine .d ?_ | refine .e ?_ | (simp <;> omega) | omega)
  · have hq : (s1 == s2) = false := by simp [hs]
    have HN : Hid (¬ a = b) := by
      rintro rfl; exact hs (hs1.trans hs2.symm)
    clear hs1 hs2 hl1 hl2 hs
    go_enter Tryz.func168, Tryz.ntmps168
    go_wp2_with fail
    go_ret
    exact RetV.mk (by rw [decide_eq_false HN.out]; rfl) (by repeat first | with_reducible exact .refl .. | with_reducible assumption | refine .s ?_ ?_ | refine .m ?_ ?_ | refine .l ?_ ?_ | refine .d ?_ | refine .e ?_ | (simp <;> omega) | omega)

end Go.Proofs.YthhdleppkggepaaGreat

/-
  The walk of the reference of package rational: equality.
-/
namespace Go.Proofs.YthhdleppkggepaaGreat
open Go.RowKit Go.Deep
set_option maxRecDepth 100000

set_option maxHeartbeats 1000000 in
theorem r2same_ok (w : World) (ex : List Nat) (s1 : Bool) (A1 : Option Addr) (n1 c1 : Nat) (s2 : Bool) (A2 : Option Addr) (n2 c2 : Nat) (a : Rat) (s3 : Bool) (A3 : Option Addr) (n3 c3 : Nat) (s4 : Bool) (A4 : Option Addr) (n4 c4 : Nat) (b : Rat)
    (hx : RQ w ex s1 A1 n1 c1 s2 A2 n2 c2 a) (hy : RQ w ex s3 A3 n3 c3 s4 A4 n4 c4 b) (hn1 : n1 ≤ 1000000000) (hn2 : n2 ≤ 1000000000) :
    Calls Tryz.prog 128 #[.agg #[.bool s1, .slice A1 n1 c1, .bool s2, .slice A2 n2 c2], .agg #[.bool s3, .slice A3 n3 c3, .bool s4, .slice A4 n4 c4]] w (RetV w (.bool (decide (a = b)))) := by
  by_cases hnum : a.num = b.num
  · have HN := Lib.hid hnum
    have hd : decide (a.num = b.num) = true := decide_eq_true hnum
    clear hnum
    go_enter Tryz.func128, Tryz.ntmps128
    go_wp2_with fail
    refine (r2same1_ok _ ex _ _ _ _ _ _ _ _ _ _ (hx.num.mono (Kr.of_below (by repeat first | with_reducible exact .refl .. | with_reducible assumption | refine .s ?_ ?_ | refine .m ?_ ?_ | refine .l ?_ ?_ | refine .d ?_ | refine .e ?_ | (simp <;> omega) | omega) ex)) (hy.num.mono (Kr.of_below (by repeat first | with_reducible exact .refl .. | with_reducible assumption | refine .s ?_ ?_ | refine .m ?_ ?_ | refine .l ?_ ?_ | refine .d ?_ | refine .e ?_ | (simp <;> omega) | omega) ex)) hn1).mono ?_; rintro e w1 ⟨X, D, rfl, rfl⟩
    rw [hd]
    go_wp2_with fail
    refine (r2same1_ok _ ex _ _ _ _ _ _ _ _ _ _ (hx.den.mono (Kr.of_below (by repeat first | with_reducible exact .refl .. | with_reducible assumption | refine .s ?_ ?_ | refine .m ?_ ?_ | refine .l ?_ ?_ | refine .d ?_ | refine .e ?_ | (simp <;> omega) | omega) ex)) (hy.den.mono (Kr.of_below (by repeat first | with_reducible exact .refl .. | with_reducible assumption | refine .s ?_ ?_ | refine .m ?_ ?_ | refine .l ?_ ?_ | refine .d ?_ | refine .e ?_ | (simp <;> omega) | omega) ex)) hn2).mono ?_; rintro e w1 ⟨X2, D2, rfl, rfl⟩
    have he : decide ((a.den : Int) = (b.den : Int)) = decide (a = b) := by
      rw [decide_eq_decide]
      exact ⟨fun hh => Rat.ext HN.out (by omega), fun hh => by rw [hh]⟩
    rw [he]
    clear he
    go_wp2_with fail
    go_ret
    exact RetV.mk rfl (by repeat first | with_reducible exact .refl .. | with_reducible assumption | refine .s ?_ ?_ | refine .m ?_ ?_ | refine .l ?_ ?_ | refine .d ?_ | refine .e ?_ | (simp <;> omega) | omega)
  · have HN : Hid (¬ a = b) := by rintro rfl; exact hnum rfl
    have hd : decide (a.num = b.num) = false := decide_eq_false hnum
    clear hnum
    go_enter Tryz.func128, Tryz.ntmps128
    go_wp2_with fail
    refine (r2same1_ok _ ex _ _ _ _ _ _ _ _ _ _ (hx.num.mono (Kr.of_below (by repeat first | with_reducible exact .refl .. | with_reducible assumption | refine .s ?_ ?_ | refine .m ?_ ?_ | refine .l ?_ ?_ | refine .d ?_ | refine .e ?_ | (simp <;> omega) | omega) ex)) (hy.num.mono (Kr.of_below (by repeat first | with_reducible exact .refl .. | with_reducible assumption | refine .s ?_ ?_ | refine .m ?_ ?_ | refine .l ?_ ?_ | refine .d ?_ | refine .e ?_ | (simp <;> omega) | omega) ex)) hn1).mono ?_; rintro e w1 ⟨X, D, rfl, rfl⟩
    rw [hd]
    go_wp2_with fail
    go_ret
    exact RetV.mk (by rw [decide_eq_false HN.out]; rfl) (by repeat first | with_reducible exact .refl .. | with_reducible assumption | refine .s ?_ ?_ | refine .m ?_ ?_ | refine .l ?_ ?_ | refine .d ?_ | refine .e ?_ | (simp <;> omega) | omega)

end Go.Proofs.YthhdleppkggepaaGreat

/-
  The walks of the reference of package polynomial: the order, and equality.
-/
namespace Go.Proofs.YthhdleppkggepaaGreat
open Go.RowKit Go.Deep
set_option maxRecDepth 100000

set_option maxHeartbeats 4000000 in
theorem r6cmp_ok (w : World) (ex : List Nat) (B1 : Option Addr) (np cp : Nat) (p : List (Rat × List Int)) (B2 : Option Addr) (nq cq : Nat) (q : List (Rat × List Int)) (hx : RP w ex B1 np cp p) (hy : RP w ex B2 nq cq q)
    (htp : PTy p) (htq : PTy q) (hnp : np ≤ 1000000000) (hnq : nq ≤ 1000000000) :
    Calls Tryz.prog 101 #[.slice B1 np cp, .slice B2 nq cq] w (RetV w (.int .i64 (cmpP p q))) := by
  have HL1 := Lib.hid hx.len
  have HL2 := Lib.hid hy.len
  have hcap1 := hx.cap
  have hcap2 := hy.cap
  have HT1 := Lib.hid htp
  have HT2 := Lib.hid htq
  clear htp htq
  go_enter Tryz.func101, Tryz.ntmps101
  go_wp2_with fail
  go_loopw [5] (fun i wr => ∃ k : Nat, k ≤ np ∧ k ≤ nq ∧ i = .int .i64 k ∧ Hid (cmpP (p.drop k) (q.drop k) = cmpP p q) ∧ Below w.heap.size w wr) (fun i _ => np - (intOf i).toNat)
  case atStart => exact ⟨0, Nat.zero_le _, Nat.zero_le _, rfl, Lib.hid rfl, (by repeat first | with_reducible exact .refl .. | with_reducible assumption | refine .s ?_ ?_ | refine .m ?_ ?_ | refine .l ?_ ?_ | refine .d ?_ | refine .e ?_ | (simp <;> omega) | omega)⟩
  case round =>
    obtain ⟨k, hk, hk2, rfl, HC, hb⟩ := hrel
    have hsz := hb.size
    have hxw := hx.mono (Kr.of_below hb ex)
    have hyw := hy.mono (Kr.of_below hb ex)
    by_cases hk1 : k < np
    · obtain ⟨b, o, rfl, hbx, hbl, ht⟩ := hxw.at_ (by omega)
      have hkp : k < p.length := by have := HL1.out; omega
      obtain ⟨s1, A1, n1, c1, s2, A2, n2, c2, e0, e1, e2, e3, e4, e5, e6, e7, h0, h1, h2, h3, h4, h5, h6, h7, h8, h9, h10, h11, hq, hm⟩ := ht k hkp
      have hd1 : wr.cell? ⟨b, o + k * 12 + 4 + 1, none⟩ = some (.int .i64 e1) := h5
      have hd2 : wr.cell? ⟨b, o + k * 12 + 4 + 2, none⟩ = some (.int .i64 e2) := h6
      have hd3 : wr.cell? ⟨b, o + k * 12 + 4 + 3, none⟩ = some (.int .i64 e3) := h7
      have hd4 : wr.cell? ⟨b, o + k * 12 + 4 + 4, none⟩ = some (.int .i64 e4) := h8
      have hd5 : wr.cell? ⟨b, o + k * 12 + 4 + 5, none⟩ = some (.int .i64 e5) := h9
      have hd6 : wr.cell? ⟨b, o + k * 12 + 4 + 6, none⟩ = some (.int .i64 e6) := h10
      have hd7 : wr.cell? ⟨b, o + k * 12 + 4 + 7, none⟩ = some (.int .i64 e7) := h11
      clear ht
      have hii : (k : Int) < (np : Int) := by omega
      by_cases hk3 : k < nq
      · obtain ⟨b', o', rfl, hbx', hbl', ht⟩ := hyw.at_ (by omega)
        have hkq : k < q.length := by have := HL2.out; omega
        obtain ⟨s3, A3, n3, c3, s4, A4, n4, c4, f0, f1, f2, f3, f4, f5, f6, f7, g0, g1, g2, g3, g4, g5, g6, g7, g8, g9, g10, g11, gq, gm⟩ := ht k hkq
        have gd1 : wr.cell? ⟨b', o' + k * 12 + 4 + 1, none⟩ = some (.int .i64 f1) := g5
        have gd2 : wr.cell? ⟨b', o' + k * 12 + 4 + 2, none⟩ = some (.int .i64 f2) := g6
        have gd3 : wr.cell? ⟨b', o' + k * 12 + 4 + 3, none⟩ = some (.int .i64 f3) := g7
        have gd4 : wr.cell? ⟨b', o' + k * 12 + 4 + 4, none⟩ = some (.int .i64 f4) := g8
        have gd5 : wr.cell? ⟨b', o' + k * 12 + 4 + 5, none⟩ = some (.int .i64 f5) := g9
        have gd6 : wr.cell? ⟨b', o' + k * 12 + 4 + 6, none⟩ = some (.int .i64 f6) := g10
        have gd7 : wr.cell? ⟨b', o' + k * 12 + 4 + 7, none⟩ = some (.int .i64 f7) := g11
        clear ht
        have hkk : (k : Int) < (nq : Int) := by omega
        have hst := cmpP_drop hkp hkq
        have hT1 : Ty p[k].1 := HT1.out _ (List.getElem_mem hkp)
        have hT2 : Ty q[k].1 := HT2.out _ (List.getElem_mem hkq)
        rw [hm, gm, HC.out] at hst
        obtain ⟨x, hx1⟩ : ∃ x, p[k].1 = x := ⟨_, rfl⟩
        obtain ⟨y, hy1⟩ : ∃ y, q[k].1 = y := ⟨_, rfl⟩
        rw [hx1] at hq hT1 hst
        rw [hy1] at gq hT2 hst
        obtain ⟨z, hz⟩ : ∃ z, cmpL [e0, e1, e2, e3, e4, e5, e6, e7] [f0, f1, f2, f3, f4, f5, f6, f7] = z := ⟨_, rfl⟩
        rw [hz] at hst
        have HZ := Lib.hid hz
        obtain ⟨v, hv⟩ : ∃ v, cmpQ x y = v := ⟨_, rfl⟩
        rw [hv] at hst
        have HV := Lib.hid hv
        have HS := Lib.hid hst
        clear hz hv hst hx1 hy1 hm gm
        by_cases hz0 : z = 0
        · subst hz0
          by_cases hv0 : v = 0
          · subst hv0
            go_wp2_with fail
            go_region_held3 (fun w' => w'.cell? ⟨b, o + k * 12 + 4, none⟩ = some (.int .i64 e0) ∧ w'.cell? ⟨b, o + k * 12 + 4 + 1, none⟩ = some (.int .i64 e1) ∧ w'.cell? ⟨b, o + k * 12 + 4 + 2, none⟩ = some (.int .i64 e2) ∧ w'.cell? ⟨b, o + k * 12 + 4 + 3, none⟩ = some (.int .i64 e3) ∧ w'.cell? ⟨b, o + k * 12 + 4 + 4, none⟩ = some (.int .i64 e4) ∧ w'.cell? ⟨b, o + k * 12 + 4 + 5, none⟩ = some (.int .i64 e5) ∧ w'.cell? ⟨b, o + k * 12 + 4 + 6, none⟩ = some (.int .i64 e6) ∧ w'.cell? ⟨b, o + k * 12 + 4 + 7, none⟩ = some (.int .i64 e7) ∧ w'.cell? ⟨b', o' + k * 12 + 4, none⟩ = some (.int .i64 f0) ∧ w'.cell? ⟨b', o' + k * 12 + 4 + 1, none⟩ = some (.int .i64 f1) ∧ w'.cell? ⟨b', o' + k * 12 + 4 + 2, none⟩ = some (.int .i64 f2) ∧ w'.cell? ⟨b', o' + k * 12 + 4 + 3, none⟩ = some (.int .i64 f3) ∧ w'.cell? ⟨b', o' + k * 12 + 4 + 4, none⟩ = some (.int .i64 f4) ∧ w'.cell? ⟨b', o' + k * 12 + 4 + 5, none⟩ = some (.int .i64 f5) ∧ w'.cell? ⟨b', o' + k * 12 + 4 + 6, none⟩ = some (.int .i64 f6) ∧ w'.cell? ⟨b', o' + k * 12 + 4 + 7, none⟩ = some (.int .i64 f7))
              ((repeat' apply And.intro) <;> first | (simp [*, go_sem, ↓IntWalk.iteOmega]; done) | (refine got_of ?_; simp [*, go_sem, ↓IntWalk.iteOmega]; done))
              (first | (go_at_call 85; refine (r4cmp_ok _ e0 e1 e2 e3 e4 e5 e6 e7 f0 f1 f2 f3 f4 f5 f6 f7).mono ?_; rintro e w1 ⟨X1, D1, rfl, rfl⟩; rw [HZ.out]))
            all_goals (rename_i hHeldZ; clear hHeldZ)
            all_goals
              go_wp2_with fail
              go_region_held3 (fun w' => w'.cell? ⟨b, o + k * 12, none⟩ = some (.bool s1) ∧ w'.cell? ⟨b, o + k * 12 + 1, none⟩ = some (.slice A1 n1 c1) ∧ w'.cell? ⟨b, o + k * 12 + 2, none⟩ = some (.bool s2) ∧ w'.cell? ⟨b, o + k * 12 + 3, none⟩ = some (.slice A2 n2 c2) ∧ w'.cell? ⟨b', o' + k * 12, none⟩ = some (.bool s3) ∧ w'.cell? ⟨b', o' + k * 12 + 1, none⟩ = some (.slice A3 n3 c3) ∧ w'.cell? ⟨b', o' + k * 12 + 2, none⟩ = some (.bool s4) ∧ w'.cell? ⟨b', o' + k * 12 + 3, none⟩ = some (.slice A4 n4 c4))
                ((repeat' apply And.intro) <;> first | (simp [*, go_sem, ↓IntWalk.iteOmega]; done) | (refine got_of ?_; simp [*, go_sem, ↓IntWalk.iteOmega]; done))
                (first | (go_at_call 152; refine (r2cmp_ok _ ex s1 A1 n1 c1 s2 A2 n2 c2 x s3 A3 n3 c3 s4 A4 n4 c4 y (hq.mono (Kr.of_below (by repeat first | with_reducible exact .refl .. | with_reducible assumption | refine .s ?_ ?_ | refine .m ?_ ?_ | refine .l ?_ ?_ | refine .d ?_ | refine .e ?_ | (simp <;> omega) | omega) _)) (gq.mono (Kr.of_below (by repeat first | with_reducible exact .refl .. | with_reducible assumption | refine .s ?_ ?_ | refine .m ?_ ?_ | refine .l ?_ ?_ | refine .d ?_ | refine .e ?_ | (simp <;> omega) | omega) _)) hT1.few hT2.few).mono ?_; rintro e w1 ⟨X2, D2, rfl, rfl⟩; rw [HV.out]))
              all_goals (rename_i hHeldZ; clear hHeldZ)
            all_goals
              go_wp2_with fail
              go_roundw
              case rel => exact ⟨k + 1, by omega, by omega, by go_num, Lib.hid (by rw [HS.out]; simp), (by repeat first | with_reducible exact .refl .. | with_reducible assumption | refine .s ?_ ?_ | refine .m ?_ ?_ | refine .l ?_ ?_ | refine .d ?_ | refine .e ?_ | (simp <;> omega) | omega)⟩
              case measure => simp [intOf]; omega
          · have hvb : (v == 0) = false := by simpa using hv0
            have HE : Hid (cmpP p q = v) := by have hh := HS.out; simp [hv0] at hh; exact hh
            go_wp2_with fail
            go_region_held3 (fun w' => w'.cell? ⟨b, o + k * 12 + 4, none⟩ = some (.int .i64 e0) ∧ w'.cell? ⟨b, o + k * 12 + 4 + 1, none⟩ = some (.int .i64 e1) ∧ w'.cell? ⟨b, o + k * 12 + 4 + 2, none⟩ = some (.int .i64 e2) ∧ w'.cell? ⟨b, o + k * 12 + 4 + 3, none⟩ = some (.int .i64 e3) ∧ w'.cell? ⟨b, o + k * 12 + 4 + 4, none⟩ = some (.int .i64 e4) ∧ w'.cell? ⟨b, o + k * 12 + 4 + 5, none⟩ = some (.int .i64 e5) ∧ w'.cell? ⟨b, o + k * 12 + 4 + 6, none⟩ = some (.int .i64 e6) ∧ w'.cell? ⟨b, o + k * 12 + 4 + 7, none⟩ = some (.int .i64 e7) ∧ w'.cell? ⟨b', o' + k * 12 + 4, none⟩ = some (.int .i64 f0) ∧ w'.cell? ⟨b', o' + k * 12 + 4 + 1, none⟩ = some (.int .i64 f1) ∧ w'.cell? ⟨b', o' + k * 12 + 4 + 2, none⟩ = some (.int .i64 f2) ∧ w'.cell? ⟨b', o' + k * 12 + 4 + 3, none⟩ = some (.int .i64 f3) ∧ w'.cell? ⟨b', o' + k * 12 + 4 + 4, none⟩ = some (.int .i64 f4) ∧ w'.cell? ⟨b', o' + k * 12 + 4 + 5, none⟩ = some (.int .i64 f5) ∧ w'.cell? ⟨b', o' + k * 12 + 4 + 6, none⟩ = some (.int .i64 f6) ∧ w'.cell? ⟨b', o' + k * 12 + 4 + 7, none⟩ = some (.int .i64 f7))
              ((repeat' apply And.intro) <;> first | (simp [*, go_sem, ↓IntWalk.iteOmega]; done) | (refine got_of ?_; simp [*, go_sem, ↓IntWalk.iteOmega]; done))
              (first | (go_at_call 85; refine (r4cmp_ok _ e0 e1 e2 e3 e4 e5 e6 e7 f0 f1 f2 f3 f4 f5 f6 f7).mono ?_; rintro e w1 ⟨X1, D1, rfl, rfl⟩; rw [HZ.out]))
            all_goals (rename_i hHeldZ; clear hHeldZ)
            all_goals
              go_wp2_with fail
              go_region_held3 (fun w' => w'.cell? ⟨b, o + k * 12, none⟩ = some (.bool s1) ∧ w'.cell? ⟨b, o + k * 12 + 1, none⟩ = some (.slice A1 n1 c1) ∧ w'.cell? ⟨b, o + k * 12 + 2, none⟩ = some (.bool s2) ∧ w'.cell? ⟨b, o + k * 12 + 3, none⟩ = some (.slice A2 n2 c2) ∧ w'.cell? ⟨b', o' + k * 12, none⟩ = some (.bool s3) ∧ w'.cell? ⟨b', o' + k * 12 + 1, none⟩ = some (.slice A3 n3 c3) ∧ w'.cell? ⟨b', o' + k * 12 + 2, none⟩ = some (.bool s4) ∧ w'.cell? ⟨b', o' + k * 12 + 3, none⟩ = some (.slice A4 n4 c4))
                ((repeat' apply And.intro) <;> first | (simp [*, go_sem, ↓IntWalk.iteOmega]; done) | (refine got_of ?_; simp [*, go_sem, ↓IntWalk.iteOmega]; done))
                (first | (go_at_call 152; refine (r2cmp_ok _ ex s1 A1 n1 c1 s2 A2 n2 c2 x s3 A3 n3 c3 s4 A4 n4 c4 y (hq.mono (Kr.of_below (by repeat first | with_reducible exact .refl .. | with_reducible assumption | refine .s ?_ ?_ | refine .m ?_ ?_ | refine .l ?_ ?_ | refine .d ?_ | refine .e ?_ | (simp <;> omega) | omega) _)) (gq.mono (Kr.of_below (by repeat first | with_reducible exact .refl .. | with_reducible assumption | refine .s ?_ ?_ | refine .m ?_ ?_ | refine .l ?_ ?_ | refine .d ?_ | refine .e ?_ | (simp <;> omega) | omega) _)) hT1.few hT2.few).mono ?_; rintro e w1 ⟨X2, D2, rfl, rfl⟩; rw [HV.out]))
              all_goals (rename_i hHeldZ; clear hHeldZ)
            all_goals
              go_wp2_with fail
              go_region_held3 (fun w' => w'.cell? ⟨b, o + k * 12, none⟩ = some (.bool s1) ∧ w'.cell? ⟨b, o + k * 12 + 1, none⟩ = some (.slice A1 n1 c1) ∧ w'.cell? ⟨b, o + k * 12 + 2, none⟩ = some (.bool s2) ∧ w'.cell? ⟨b, o + k * 12 + 3, none⟩ = some (.slice A2 n2 c2) ∧ w'.cell? ⟨b', o' + k * 12, none⟩ = some (.bool s3) ∧ w'.cell? ⟨b', o' + k * 12 + 1, none⟩ = some (.slice A3 n3 c3) ∧ w'.cell? ⟨b', o' + k * 12 + 2, none⟩ = some (.bool s4) ∧ w'.cell? ⟨b', o' + k * 12 + 3, none⟩ = some (.slice A4 n4 c4))
                ((repeat' apply And.intro) <;> first | (simp [*, go_sem, ↓IntWalk.iteOmega]; done) | (refine got_of ?_; simp [*, go_sem, ↓IntWalk.iteOmega]; done))
                (first | (go_at_call 152; refine (r2cmp_ok _ ex s1 A1 n1 c1 s2 A2 n2 c2 x s3 A3 n3 c3 s4 A4 n4 c4 y (hq.mono (Kr.of_below (by repeat first | with_reducible exact .refl .. | with_reducible assumption | refine .s ?_ ?_ | refine .m ?_ ?_ | refine .l ?_ ?_ | refine .d ?_ | refine .e ?_ | (simp <;> omega) | omega) _)) (gq.mono (Kr.of_below (by repeat first | with_reducible exact .refl .. | with_reducible assumption | refine .s ?_ ?_ | refine .m ?_ ?_ | refine .l ?_ ?_ | refine .d ?_ | refine .e ?_ | (simp <;> omega) | omega) _)) hT1.few hT2.few).mono ?_; rintro e w1 ⟨X3, D3, rfl, rfl⟩; rw [HV.out]))
              all_goals (rename_i hHeldZ; clear hHeldZ)
            all_goals
              go_wp2_with fail
              go_ret
              rw [HE.out]
              exact RetV.mk rfl (by repeat first | with_reducible exact .refl .. | with_reducible assumption | refine .s ?_ ?_ | refine .m ?_ ?_ | refine .l ?_ ?_ | refine .d ?_ | refine .e ?_ | (simp <;> omega) | omega)
        · have hzb : (z == 0) = false := by simpa using hz0
          have HE : Hid (cmpP p q = z) := by have hh := HS.out; simp [hz0] at hh; exact hh
          go_wp2_with fail
          go_region_held3 (fun w' => w'.cell? ⟨b, o + k * 12 + 4, none⟩ = some (.int .i64 e0) ∧ w'.cell? ⟨b, o + k * 12 + 4 + 1, none⟩ = some (.int .i64 e1) ∧ w'.cell? ⟨b, o + k * 12 + 4 + 2, none⟩ = some (.int .i64 e2) ∧ w'.cell? ⟨b, o + k * 12 + 4 + 3, none⟩ = some (.int .i64 e3) ∧ w'.cell? ⟨b, o + k * 12 + 4 + 4, none⟩ = some (.int .i64 e4) ∧ w'.cell? ⟨b, o + k * 12 + 4 + 5, none⟩ = some (.int .i64 e5) ∧ w'.cell? ⟨b, o + k * 12 + 4 + 6, none⟩ = some (.int .i64 e6) ∧ w'.cell? ⟨b, o + k * 12 + 4 + 7, none⟩ = some (.int .i64 e7) ∧ w'.cell? ⟨b', o' + k * 12 + 4, none⟩ = some (.int .i64 f0) ∧ w'.cell? ⟨b', o' + k * 12 + 4 + 1, none⟩ = some (.int .i64 f1) ∧ w'.cell? ⟨b', o' + k * 12 + 4 + 2, none⟩ = some (.int .i64 f2) ∧ w'.cell? ⟨b', o' + k * 12 + 4 + 3, none⟩ = some (.int .i64 f3) ∧ w'.cell? ⟨b', o' + k * 12 + 4 + 4, none⟩ = some (.int .i64 f4) ∧ w'.cell? ⟨b', o' + k * 12 + 4 + 5, none⟩ = some (.int .i64 f5) ∧ w'.cell? ⟨b', o' + k * 12 + 4 + 6, none⟩ = some (.int .i64 f6) ∧ w'.cell? ⟨b', o' + k * 12 + 4 + 7, none⟩ = some (.int .i64 f7))
            ((repeat' apply And.intro) <;> first | (simp [*, go_sem, ↓IntWalk.iteOmega]; done) | (refine got_of ?_; simp [*, go_sem, ↓IntWalk.iteOmega]; done))
            (first | (go_at_call 85; refine (r4cmp_ok _ e0 e1 e2 e3 e4 e5 e6 e7 f0 f1 f2 f3 f4 f5 f6 f7).mono ?_; rintro e w1 ⟨X1, D1, rfl, rfl⟩; rw [HZ.out]))
          all_goals (rename_i hHeldZ; clear hHeldZ)
          all_goals
            go_wp2_with fail
            go_region_held3 (fun w' => w'.cell? ⟨b, o + k * 12 + 4, none⟩ = some (.int .i64 e0) ∧ w'.cell? ⟨b, o + k * 12 + 4 + 1, none⟩ = some (.int .i64 e1) ∧ w'.cell? ⟨b, o + k * 12 + 4 + 2, none⟩ = some (.int .i64 e2) ∧ w'.cell? ⟨b, o + k * 12 + 4 + 3, none⟩ = some (.int .i64 e3) ∧ w'.cell? ⟨b, o + k * 12 + 4 + 4, none⟩ = some (.int .i64 e4) ∧ w'.cell? ⟨b, o + k * 12 + 4 + 5, none⟩ = some (.int .i64 e5) ∧ w'.cell? ⟨b, o + k * 12 + 4 + 6, none⟩ = some (.int .i64 e6) ∧ w'.cell? ⟨b, o + k * 12 + 4 + 7, none⟩ = some (.int .i64 e7) ∧ w'.cell? ⟨b', o' + k * 12 + 4, none⟩ = some (.int .i64 f0) ∧ w'.cell? ⟨b', o' + k * 12 + 4 + 1, none⟩ = some (.int .i64 f1) ∧ w'.cell? ⟨b', o' + k * 12 + 4 + 2, none⟩ = some (.int .i64 f2) ∧ w'.cell? ⟨b', o' + k * 12 + 4 + 3, none⟩ = some (.int .i64 f3) ∧ w'.cell? ⟨b', o' + k * 12 + 4 + 4, none⟩ = some (.int .i64 f4) ∧ w'.cell? ⟨b', o' + k * 12 + 4 + 5, none⟩ = some (.int .i64 f5) ∧ w'.cell? ⟨b', o' + k * 12 + 4 + 6, none⟩ = some (.int .i64 f6) ∧ w'.cell? ⟨b', o' + k * 12 + 4 + 7, none⟩ = some (.int .i64 f7))
              ((repeat' apply And.intro) <;> first | (simp [*, go_sem, ↓IntWalk.iteOmega]; done) | (refine got_of ?_; simp [*, go_sem, ↓IntWalk.iteOmega]; done))
              (first | (go_at_call 85; refine (r4cmp_ok _ e0 e1 e2 e3 e4 e5 e6 e7 f0 f1 f2 f3 f4 f5 f6 f7).mono ?_; rintro e w1 ⟨X2, D2, rfl, rfl⟩; rw [HZ.out]))
            all_goals (rename_i hHeldZ; clear hHeldZ)
          all_goals
            go_wp2_with fail
            go_ret
            rw [HE.out]
            exact RetV.mk rfl (by repeat first | with_reducible exact .refl .. | with_reducible assumption | refine .s ?_ ?_ | refine .m ?_ ?_ | refine .l ?_ ?_ | refine .d ?_ | refine .e ?_ | (simp <;> omega) | omega)
      · obtain rfl : k = nq := by omega
        have HE : Hid (cmpP p q = 1) := by rw [← HC.out]; exact cmpP_end1 hkp (by have := HL2.out; omega)
        go_wp2_with fail
        go_ret
        rw [HE.out]
        exact RetV.mk rfl (by repeat first | with_reducible exact .refl .. | with_reducible assumption | refine .s ?_ ?_ | refine .m ?_ ?_ | refine .l ?_ ?_ | refine .d ?_ | refine .e ?_ | (simp <;> omega) | omega)
    · obtain rfl : k = np := by omega
      by_cases hk3 : k < nq
      · have HE : Hid (cmpP p q = -1) := by rw [← HC.out]; exact cmpP_end2 (by have := HL1.out; omega) (by have := HL2.out; omega)
        have hkk : (k : Int) < (nq : Int) := by omega
        go_wp2_with fail
        go_ret
        rw [HE.out]
        exact RetV.mk rfl (by repeat first | with_reducible exact .refl .. | with_reducible assumption | refine .s ?_ ?_ | refine .m ?_ ?_ | refine .l ?_ ?_ | refine .d ?_ | refine .e ?_ | (simp <;> omega) | omega)
      · have HE : Hid (cmpP p q = 0) := by rw [← HC.out]; exact cmpP_end3 (by have := HL1.out; omega) (by have := HL2.out; omega)
        go_wp2_with fail
        go_ret
        rw [HE.out]
        exact RetV.mk rfl (by repeat first | with_reducible exact .refl .. | with_reducible assumption | refine .s ?_ ?_ | refine .m ?_ ?_ | refine .l ?_ ?_ | refine .d ?_ | refine .e ?_ | (simp <;> omega) | omega)

end Go.Proofs.YthhdleppkggepaaGreat
