/-
  The bytes that the reference of package claim writes: Poly, Polys.
-/
import Derived.Test.YthhdleppkggepaaGreatSb12
import Derived.Test.YthhdleppkggepaaGreatSb13
import Derived.Test.YthhdleppkggepaaGreatSb14

set_option linter.unusedSimpArgs false
set_option linter.unusedVariables false
set_option linter.unusedSectionVars false

namespace Go.Proofs.YthhdleppkggepaaGreat
open Go.RowKit Go.Deep
set_option maxRecDepth 100000

theorem termB_eq (q : Rat) (m : List Int) : termB (q, m) = ratB q ++ monB m := by unfold termB; rfl

set_option maxHeartbeats 1000000 in
theorem rpoly_ok (w : World) (base : Nat) (v : Value) (bs : List Nat) (ex : List Nat) (A : Option Addr) (n c : Nat) (pol : List (Rat × List Int)) (hs : OwnL byE w base [] v bs) (hbase : base ≤ w.heap.size) (hx : RP w (own v ++ ex) A n c pol) (hm : PExps pol) (hn : n ≤ 1000000000) (hl : bs.length + (polB pol).length ≤ 10000000000) :
    Calls Tryz.prog 160 #[v, .slice A n c] w (RetAp w base v (bs ++ polB pol)) := by
  have HLn := Lib.hid hx.len
  have hcap := hx.cap
  have HX := Lib.hid hx
  have HM := Lib.hid hm
  have HL := Lib.hid (show bs.length + (natB n).length + (pol.flatMap termB).length ≤ 10000000000 by
    have e : (polB pol).length = (natB pol.length).length + (pol.flatMap termB).length := by unfold polB; rw [List.length_append]
    rw [HLn.out]; omega)
  have HC := Lib.hid (rnat_ok w base v bs n hs hbase (by omega) (by have := HL.out; omega))
  have HPo := Lib.hid (show bs ++ polB pol = bs ++ natB n ++ pol.flatMap termB by unfold polB; rw [HLn.out, List.append_assoc])
  clear hs hx hm hl
  go_enter Tryz.func160, Tryz.ntmps160
  go_wp2_with fail
  refine HC.out.mono ?_; rintro e w1 ⟨v1, rfl, hw1, hk1, hb1, hbs1⟩
  go_wp2_with fail
  have HX1 := Lib.hid (HX.out.mono (hk1 ex))
  generalize hB1 : bs ++ natB n = B1 at *
  have HB1 := Lib.hid hB1
  clear hB1
  go_loopw [0, 5] (fun v' i wr => ∃ (k : Nat) (y : Value), y = v' ∧ k ≤ n ∧ i = .int .i64 k ∧ OwnL byE wr base [] y (B1 ++ (pol.take k).flatMap termB) ∧ (∀ ex, Kr w1 (own v1 ++ ex) wr (own y ++ ex)) ∧ Below base w wr ∧ base ≤ wr.heap.size) (fun _ i _ => n - (intOf i).toNat)
  case atStart => exact ⟨0, v1, rfl, Nat.zero_le _, rfl, by simpa using hw1, fun _ => Kr.refl _ _, hb1, hbs1⟩
  case round =>
    obtain ⟨wo, hwo⟩ : ∃ x, x = wr := ⟨_, rfl⟩
    subst hwo
    obtain ⟨k, v', rfl, hk, rfl, hw, hkr, hb, hbs⟩ := hrel
    by_cases hlt : k < n
    · have hxw := HX1.out.mono (hkr ex)
      obtain ⟨b, o, rfl, hbx, hbl, ht⟩ := hxw.at_ (by omega)
      have hkl : k < pol.length := by rw [← HLn.out]; exact hlt
      obtain ⟨s1, A1, n1, c1, s2, A2, n2, c2, e0, e1, e2, e3, e4, e5, e6, e7, h0, h1, h2, h3, h4, h5, h6, h7, h8, h9, h10, h11, hq, hm⟩ := ht k hkl
      have hE : Exps [e0, e1, e2, e3, e4, e5, e6, e7] := by rw [← hm]; exact HM.out _ (List.getElem_mem hkl)
      have hT : (pol[k] : Rat × List Int) = (pol[k].1, [e0, e1, e2, e3, e4, e5, e6, e7]) := by rw [← hm]
      have HT := Lib.hid (show B1 ++ (pol.take (k + 1)).flatMap termB = B1 ++ (pol.take k).flatMap termB ++ ratB pol[k].1 ++ monB [e0, e1, e2, e3, e4, e5, e6, e7] by
        rw [List.append_assoc (B1 ++ (pol.take k).flatMap termB), ← termB_eq, ← hT, flat_take _ _ hkl, ← List.append_assoc])
      have hll : (B1 ++ (pol.take k).flatMap termB ++ ratB pol[k].1 ++ monB [e0, e1, e2, e3, e4, e5, e6, e7]).length ≤ 10000000000 := by
        rw [← HT.out, List.length_append]
        have := flat_take_le termB pol (k + 1)
        have := HL.out
        have := congrArg List.length HB1.out
        rw [List.length_append] at this
        omega
      rw [List.length_append] at hll
      have hi1 : (k : Int) < (n : Int) := by omega
      clear ht hxw hT hm
      generalize pol[k].1 = qq at *
      have HE := Lib.hid hE
      have HW := Lib.hid hw
      generalize hL : B1 ++ (pol.take k).flatMap termB = L at *
      have HC3 := Lib.hid (rrational_ok wo base v' L ex s1 A1 n1 c1 s2 A2 n2 c2 qq hw hbs hq (by rw [List.length_append] at hll; omega))
      have hbx' : b ∉ own v' ++ ([] : List Nat) := by
        intro hh; apply hbx; rw [List.append_nil] at hh; exact List.mem_append_left _ hh
      clear hL hw
      go_wp2_with fail
      refine HC3.out.mono ?_; rintro e w2 ⟨v2, rfl, hw2, hk2, hb2, hbs2⟩
      have hcells : ∀ j, j < 8 → w2.cell? ⟨b, o + k * 12 + 4 + j, none⟩ = some (.int .i64 ([e0, e1, e2, e3, e4, e5, e6, e7].getD j 0)) := by
        intro j hj
        have hs := (hk2 []).cell (b := b) hbl hbx' (o + k * 12 + 4 + j)
        rw [hs]
        obtain rfl | rfl | rfl | rfl | rfl | rfl | rfl | rfl : j = 0 ∨ j = 1 ∨ j = 2 ∨ j = 3 ∨ j = 4 ∨ j = 5 ∨ j = 6 ∨ j = 7 := by omega
        all_goals (first | exact h4 | exact h5 | exact h6 | exact h7 | exact h8 | exact h9 | exact h10 | exact h11)
      have hoff : b ∉ own v2 ++ ([] : List Nat) := (hk2 []).out b hbl hbx'
      have hbl2 : b < w2.heap.size := Nat.lt_of_lt_of_le hbl (hk2 []).size
      clear h0 h1 h2 h3 h4 h5 h6 h7 h8 h9 h10 h11
      go_wp2_with fail
      have hbw : Below base w w2 := hb.trans hb2
      go_loopw [0, 6] (fun v' i wr => ∃ (j : Nat) (y : Value), y = v' ∧ j ≤ 8 ∧ i = .int .i64 j ∧ OwnL byE wr base [] y (L ++ ratB qq ++ monB ([e0, e1, e2, e3, e4, e5, e6, e7].take j)) ∧ (∀ ex, Kr w2 (own v2 ++ ex) wr (own y ++ ex)) ∧ Below base w wr ∧ base ≤ wr.heap.size) (fun _ i _ => 8 - (intOf i).toNat)
      case atStart => exact ⟨0, v2, rfl, Nat.zero_le _, rfl, by simpa [monB] using hw2, fun _ => Kr.refl _ _, hbw, hbs2⟩
      case round =>
        obtain ⟨j, v3, rfl, hj, rfl, hw3, hk3, hb3, hbs3⟩ := hrel
        by_cases hlt8 : j < 8
        · have hbe := HE.out j
          have hcj := ((hk3 []).cell (b := b) hbl2 hoff (o + k * 12 + 4 + j)).trans (hcells j hlt8)
          have HT2 := Lib.hid (show L ++ ratB qq ++ monB ([e0, e1, e2, e3, e4, e5, e6, e7].take (j + 1)) = L ++ ratB qq ++ monB ([e0, e1, e2, e3, e4, e5, e6, e7].take j) ++ natB ([e0, e1, e2, e3, e4, e5, e6, e7].getD j 0).toNat by
            rw [monB_take _ (by simpa using hlt8)]; simp only [List.append_assoc])
          have hl3 : (L ++ ratB qq ++ monB ([e0, e1, e2, e3, e4, e5, e6, e7].take j) ++ natB ([e0, e1, e2, e3, e4, e5, e6, e7].getD j 0).toNat).length ≤ 10000000000 := by
            rw [← HT2.out, List.length_append]
            have := monB_take_le [e0, e1, e2, e3, e4, e5, e6, e7] (j + 1)
            omega
          obtain ⟨x, hx⟩ : ∃ x : Int, [e0, e1, e2, e3, e4, e5, e6, e7].getD j 0 = x := ⟨_, rfl⟩
          rw [hx] at hcj hbe HT2 hl3
          clear hx
          obtain ⟨y, rfl⟩ := Int.eq_ofNat_of_zero_le hbe.1
          rw [Int.toNat_natCast] at HT2 hl3
          have hy : y ≤ 65535 := by have := hbe.2; omega
          rw [List.length_append] at hl3
          have hj8 : (j : Int) < 8 := by omega
          have HC4 := Lib.hid (rnat_ok wr base v3 _ y hw3 hbs3 (by omega) hl3)
          clear hw3 hl3 hbe hcells
          go_wp2_with fail
          refine HC4.out.mono ?_; rintro e w4 ⟨v4, rfl, hw4, hk4, hb4, hbs4⟩
          go_wp2_with fail
          go_roundw
          case rel => exact ⟨j + 1, v4, rfl, by omega, by go_num, by rw [HT2.out]; exact hw4, fun ex' => (hk3 ex').trans (hk4 ex'), hb3.trans hb4, hbs4⟩
          case measure => simp [intOf]; omega
        · obtain rfl : j = 8 := by omega
          go_wp2_with fail
          go_roundw
          case rel => exact ⟨k + 1, v3, rfl, by omega, by go_num, by rw [HT.out]; exact hw3, fun ex' => ((hkr ex').trans (hk2 ex')).trans (hk3 ex'), hb3, hbs3⟩
          case measure => simp [intOf]; omega
    · obtain rfl : k = n := by omega
      go_wp2_with fail
      go_ret
      refine ⟨_, rfl, ?_, fun ex' => (hk1 ex').trans (hkr ex'), hb, hbs⟩
      rw [HPo.out, ← List.take_of_length_le (l := pol) (show pol.length ≤ k by rw [← HLn.out]; exact Nat.le_refl _)]
      exact hw

end Go.Proofs.YthhdleppkggepaaGreat

/-
  The bytes that the reference of package claim writes: Polys.
-/
namespace Go.Proofs.YthhdleppkggepaaGreat
open Go.RowKit Go.Deep
set_option maxRecDepth 100000

set_option maxHeartbeats 1000000 in
theorem rpolys_ok (w : World) (base : Nat) (v : Value) (bs : List Nat) (ex : List Nat) (A : Option Addr) (n c : Nat) (l : List (List (Rat × List Int))) (hs : OwnL byE w base [] v bs) (hbase : base ≤ w.heap.size) (hx : RL poE w (own v ++ ex) A n c l) (hm : ∀ p ∈ l, GP p) (hn : n ≤ 1000000000) (hl : bs.length + (polsB l).length ≤ 10000000000) :
    Calls Tryz.prog 108 #[v, .slice A n c] w (RetAp w base v (bs ++ polsB l)) := by
  have HLn := Lib.hid hx.len
  have hcap := hx.cap
  have HX := Lib.hid hx
  have HM := Lib.hid hm
  have HL := Lib.hid (show bs.length + (natB n).length + (l.flatMap polB).length ≤ 10000000000 by
    have e : (polsB l).length = (natB l.length).length + (l.flatMap polB).length := by unfold polsB; rw [List.length_append]
    rw [HLn.out]; omega)
  have HC := Lib.hid (rnat_ok w base v bs n hs hbase (by omega) (by have := HL.out; omega))
  have HPo := Lib.hid (show bs ++ polsB l = bs ++ natB n ++ l.flatMap polB by unfold polsB; rw [HLn.out, List.append_assoc])
  clear hs hx hm hl
  go_enter Tryz.func108, Tryz.ntmps108
  go_wp2_with fail
  refine HC.out.mono ?_; rintro e w1 ⟨v1, rfl, hw1, hk1, hb1, hbs1⟩
  go_wp2_with fail
  have HX1 := Lib.hid (HX.out.mono (hk1 ex))
  generalize hB1 : bs ++ natB n = B1 at *
  have HB1 := Lib.hid hB1
  clear hB1
  go_loopw [0, 5] (fun v' i wr => ∃ (k : Nat) (y : Value), y = v' ∧ k ≤ n ∧ i = .int .i64 k ∧ OwnL byE wr base [] y (B1 ++ (l.take k).flatMap polB) ∧ (∀ ex, Kr w1 (own v1 ++ ex) wr (own y ++ ex)) ∧ Below base w wr ∧ base ≤ wr.heap.size) (fun _ i _ => n - (intOf i).toNat)
  case atStart => exact ⟨0, v1, rfl, Nat.zero_le _, rfl, by simpa using hw1, fun _ => Kr.refl _ _, hb1, hbs1⟩
  case round =>
    obtain ⟨k, v', rfl, hk, rfl, hw, hkr, hb, hbs⟩ := hrel
    by_cases hlt : k < n
    · have hxw := HX1.out.mono (hkr ex)
      obtain ⟨b, o, rfl, hbx, hbl⟩ := hxw.some_ (by omega)
      have hkl : k < l.length := by rw [← HLn.out]; exact hlt
      obtain ⟨A3, m3, c3, hcell, hp3⟩ := hxw.poly hkl
      have hg3 := HM.out _ (List.getElem_mem hkl)
      have hm3 : m3 ≤ 1000000000 := by rw [hp3.len]; have := hg3.len; omega
      have HT := Lib.hid (show B1 ++ (l.take (k + 1)).flatMap polB = B1 ++ (l.take k).flatMap polB ++ polB l[k] by
        rw [flat_take _ _ hkl, ← List.append_assoc])
      have hll : (B1 ++ (l.take k).flatMap polB ++ polB l[k]).length ≤ 10000000000 := by
        rw [← HT.out, List.length_append]
        have := flat_take_le polB l (k + 1)
        have := HL.out
        have := congrArg List.length HB1.out
        rw [List.length_append] at this
        omega
      rw [List.length_append] at hll
      have hi1 : (k : Int) < (n : Int) := by omega
      have HC3 := Lib.hid (rpoly_ok wr base v' _ ex A3 m3 c3 l[k] hw hbs hp3 hg3.exps hm3 hll)
      clear hxw hll hp3 hg3
      go_wp2_with fail
      refine HC3.out.mono ?_; rintro e w2 ⟨v2, rfl, hw2, hk2, hb2, hbs2⟩
      go_wp2_with fail
      go_roundw
      case rel => exact ⟨k + 1, v2, rfl, by omega, by go_num, by rw [HT.out]; exact hw2, fun ex' => (hkr ex').trans (hk2 ex'), hb.trans hb2, hbs2⟩
      case measure => simp [intOf]; omega
    · obtain rfl : k = n := by omega
      go_wp2_with fail
      go_ret
      refine ⟨_, rfl, ?_, fun ex' => (hk1 ex').trans (hkr ex'), hb, hbs⟩
      rw [HPo.out, ← List.take_of_length_le (l := l) (show l.length ≤ k by rw [← HLn.out]; exact Nat.le_refl _)]
      exact hw

end Go.Proofs.YthhdleppkggepaaGreat

/-
  The bytes that the reference of package claim writes: Core.
-/
namespace Go.Proofs.YthhdleppkggepaaGreat
open Go.RowKit Go.Deep
set_option maxRecDepth 100000

set_option maxHeartbeats 4000000 in
theorem rcore_ok (w : World) (base : Nat) (v : Value) (bs : List Nat) (ex : List Nat) (N : Nat) (A1 : Option Addr) (n1 c1 : Nat) (A2 : Option Addr) (n2 c2 : Nat) (l1 l2 : List (List (Rat × List Int))) (hs : OwnL byE w base [] v bs) (hbase : base ≤ w.heap.size) (hx : RL poE w (own v ++ ex) A1 n1 c1 l1) (hy : RL poE w (own v ++ ex) A2 n2 c2 l2) (hm1 : ∀ p ∈ l1, GP p) (hm2 : ∀ p ∈ l2, GP p) (hN : N < 4294967296) (hn1 : n1 ≤ 1000000000) (hn2 : n2 ≤ 1000000000) (hl : bs.length + (coreB N l1 l2).length ≤ 10000000000) :
    Calls Tryz.prog 59 #[v, .agg #[.int .i64 N, .slice A1 n1 c1, .slice A2 n2 c2]] w (RetAp w base v (bs ++ coreB N l1 l2)) := by
  have HS := Lib.hid hs
  have HX := Lib.hid hx
  have HY := Lib.hid hy
  have HM1 := Lib.hid hm1
  have HM2 := Lib.hid hm2
  have HL := Lib.hid (show bs.length + (numB N).length + (polsB l1).length + (polsB l2).length ≤ 10000000000 by unfold coreB at hl; rw [List.length_append, List.length_append] at hl; omega)
  have HFar := Lib.hid (own_far hs (Nat.le_refl _))
  clear hs hx hy hm1 hm2 hl
  go_enter Tryz.func59, Tryz.ntmps59
  go_wp2_with fail
  refine wp_abs (fun W1 => Below w.heap.size w W1 ∧ w.heap.size < W1.heap.size ∧ W1.cell? ⟨w.heap.size, 0, none⟩ = some (.int .i64 N) ∧ W1.cell? ⟨w.heap.size, 1, none⟩ = some (.slice A1 n1 c1) ∧ W1.cell? ⟨w.heap.size, 2, none⟩ = some (.slice A2 n2 c2))
    ⟨(by repeat first | with_reducible exact .refl .. | with_reducible assumption | refine .s ?_ ?_ | refine .m ?_ ?_ | refine .l ?_ ?_ | refine .d ?_ | refine .e ?_ | (simp <;> omega) | omega), by simp, by simp [go_sem, ↓IntWalk.iteOmega], by simp [go_sem, ↓IntWalk.iteOmega], by simp [go_sem, ↓IntWalk.iteOmega]⟩ ?_
  rintro W1 ⟨hB1, hS1, b0, b1, b2⟩
  go_region_held3 (fun w' => w'.cell? ⟨w.heap.size, 0, none⟩ = some (.int .i64 N) ∧ w'.cell? ⟨w.heap.size, 0 + 1, none⟩ = some (.slice A1 n1 c1) ∧ w'.cell? ⟨w.heap.size, 0 + 2, none⟩ = some (.slice A2 n2 c2))
    ((repeat' apply And.intro) <;> first | (simp [*, go_sem, ↓IntWalk.iteOmega]; done) | (refine got_of ?_; simp [*, go_sem, ↓IntWalk.iteOmega]; done))
    (first | (go_at_call 109; refine (rnumber_ok _ base v bs N (HS.out.keep (by repeat first | with_reducible exact .refl .. | with_reducible assumption | refine .s ?_ ?_ | refine .m ?_ ?_ | refine .l ?_ ?_ | refine .d ?_ | refine .e ?_ | (simp <;> omega) | omega)) (by first | (simp; done) | (simp; omega) | omega) (by omega) (by have := HL.out; omega)).mono ?_; rintro e w1 ⟨v1, rfl, hw1, hk1, hb1, hbs1⟩; have f1 := fun o => (hk1 []).cell (b := w.heap.size) (by first | (simp; done) | (simp; omega) | omega) HFar.out o; have g1 := (hk1 []).out w.heap.size (by first | (simp; done) | (simp; omega) | omega) HFar.out; have z1 : w.heap.size < w1.heap.size := Nat.lt_of_lt_of_le (by first | (simp; done) | (simp; omega) | omega) (hk1 []).size) | (go_at_call_of 108 A1; refine (rpolys_ok _ base v1 (bs ++ numB N) ex A1 n1 c1 l1 (hw1.keep (by repeat first | with_reducible exact .refl .. | with_reducible assumption | refine .s ?_ ?_ | refine .m ?_ ?_ | refine .l ?_ ?_ | refine .d ?_ | refine .e ?_ | (simp <;> omega) | omega)) (by omega) (HX.out.mono (((Kr.of_below (by repeat first | with_reducible exact .refl .. | with_reducible assumption | refine .s ?_ ?_ | refine .m ?_ ?_ | refine .l ?_ ?_ | refine .d ?_ | refine .e ?_ | (simp <;> omega) | omega) _).trans (hk1 ex)).trans (Kr.of_below (by repeat first | with_reducible exact .refl .. | with_reducible assumption | refine .s ?_ ?_ | refine .m ?_ ?_ | refine .l ?_ ?_ | refine .d ?_ | refine .e ?_ | (simp <;> omega) | omega) _))) HM1.out (by omega) (by have := HL.out; rw [List.length_append]; omega)).mono ?_; rintro e w2 ⟨v2, rfl, hw2, hk2, hb2, hbs2⟩; have f2 := fun o => (hk2 []).cell (b := w.heap.size) (by first | (simp; done) | (simp; omega) | omega) g1 o; have g2 := (hk2 []).out w.heap.size (by first | (simp; done) | (simp; omega) | omega) g1; have z2 : w.heap.size < w2.heap.size := Nat.lt_of_lt_of_le (by first | (simp; done) | (simp; omega) | omega) (hk2 []).size) | (go_at_call_of 108 A2; refine (rpolys_ok _ base v2 (bs ++ numB N ++ polsB l1) ex A2 n2 c2 l2 (hw2.keep (by repeat first | with_reducible exact .refl .. | with_reducible assumption | refine .s ?_ ?_ | refine .m ?_ ?_ | refine .l ?_ ?_ | refine .d ?_ | refine .e ?_ | (simp <;> omega) | omega)) (by omega) (HY.out.mono (((((Kr.of_below (by repeat first | with_reducible exact .refl .. | with_reducible assumption | refine .s ?_ ?_ | refine .m ?_ ?_ | refine .l ?_ ?_ | refine .d ?_ | refine .e ?_ | (simp <;> omega) | omega) _).trans (hk1 ex)).trans (Kr.of_below (by repeat first | with_reducible exact .refl .. | with_reducible assumption | refine .s ?_ ?_ | refine .m ?_ ?_ | refine .l ?_ ?_ | refine .d ?_ | refine .e ?_ | (simp <;> omega) | omega) _)).trans (hk2 ex)).trans (Kr.of_below (by repeat first | with_reducible exact .refl .. | with_reducible assumption | refine .s ?_ ?_ | refine .m ?_ ?_ | refine .l ?_ ?_ | refine .d ?_ | refine .e ?_ | (simp <;> omega) | omega) _))) HM2.out (by omega) (by have := HL.out; rw [List.length_append, List.length_append]; omega)).mono ?_; rintro e w3 ⟨v3, rfl, hw3, hk3, hb3, hbs3⟩; have f3 := fun o => (hk3 []).cell (b := w.heap.size) (by first | (simp; done) | (simp; omega) | omega) g2 o))
  all_goals (rename_i hHeldZ; clear hHeldZ)
  all_goals
    go_wp2_with fail
    go_ret
    refine ⟨_, rfl, by unfold coreB; rw [← List.append_assoc, ← List.append_assoc]; exact hw3, fun ex' => (((((Kr.of_below (by repeat first | with_reducible exact .refl .. | with_reducible assumption | refine .s ?_ ?_ | refine .m ?_ ?_ | refine .l ?_ ?_ | refine .d ?_ | refine .e ?_ | (simp <;> omega) | omega) _).trans (hk1 ex')).trans (Kr.of_below (by repeat first | with_reducible exact .refl .. | with_reducible assumption | refine .s ?_ ?_ | refine .m ?_ ?_ | refine .l ?_ ?_ | refine .d ?_ | refine .e ?_ | (simp <;> omega) | omega) _)).trans (hk2 ex')).trans (Kr.of_below (by repeat first | with_reducible exact .refl .. | with_reducible assumption | refine .s ?_ ?_ | refine .m ?_ ?_ | refine .l ?_ ?_ | refine .d ?_ | refine .e ?_ | (simp <;> omega) | omega) _)).trans (hk3 ex'), ?_, hbs3⟩
    exact ((show Below w.heap.size w _ from (by repeat first | with_reducible exact .refl .. | with_reducible assumption | refine .s ?_ ?_ | refine .m ?_ ?_ | refine .l ?_ ?_ | refine .d ?_ | refine .e ?_ | (simp <;> omega) | omega)).mono hbase).trans ((hb1.trans hb2).trans hb3)

end Go.Proofs.YthhdleppkggepaaGreat

/-
  The walk of package claim: space.fit, Valid$1.
-/
namespace Go.Proofs.YthhdleppkggepaaGreat
open Go.RowKit Go.Deep
set_option maxRecDepth 100000

theorem shr_run (u n : Nat) (hn : n ≤ 4) (w : World) : (binOp .shr 5 (.int .u8 u) (.int .i64 n)).run Tryz.prog w = .ok (.int .u8 ((u : Int) / 2 ^ n)) w := by
  obtain rfl | rfl | rfl | rfl | rfl : n = 0 ∨ n = 1 ∨ n = 2 ∨ n = 3 ∨ n = 4 := by omega
  all_goals simp [binOp, go_sem, ↓IntWalk.iteOmega]

set_option maxHeartbeats 16000000 in
theorem fit_ok (w : World) (ex : List Nat) (A : Option Addr) (m c : Nat) (p : List (Rat × List Int)) (n : Nat) (hx : RP w ex A m c p) (hg : GP p) (hn : n ≤ 4) :
    Calls Tryz.prog 103 #[.agg #[.int .i64 n], .slice A m c, .int .i64 12] w (RetV w (.bool (withinB p n))) := by
  have hm : m ≤ 1000000000 := by rw [hx.len]; have := hg.len; omega
  have HW : Hid (withinB p n = (validB p && decide (pdeg p ≤ 12) && decide (usesN p < 2 ^ n))) := rfl
  have HX := Lib.hid hx
  have HG := Lib.hid hg
  clear hx hg
  obtain ⟨v, hv⟩ : ∃ v, validB p = v := ⟨_, rfl⟩
  have HV := Lib.hid hv
  rw [hv] at HW
  clear hv
  have hval : ∀ w', RP w' ex A m c p → Calls Tryz.prog 88 #[.slice A m c] w' (RetV w' (.bool v)) := fun w' h => by
    have := pvalid_ok w' ex A m c p h HG.out.exps HG.out.ty hm
    rwa [HV.out] at this
  cases v
  · have HE : Hid (withinB p n = false) := Lib.hid (by rw [HW.out]; rfl)
    go_enter Tryz.func103, Tryz.ntmps103
    go_wp2_with fail
    first | go_region_with (first | (go_at_call 88; refine (hval _ (HX.out.mono (Kr.of_below (by repeat first | with_reducible exact .refl .. | with_reducible assumption | refine .s ?_ ?_ | refine .m ?_ ?_ | refine .l ?_ ?_ | refine .d ?_ | refine .e ?_ | (simp <;> omega) | omega) _))).mono ?_; rintro e w1 ⟨X, D, rfl, rfl⟩)) | fail
    all_goals
      go_wp2_with fail
      go_ret
      rw [HE.out]
      exact RetV.mk rfl (by repeat first | with_reducible exact .refl .. | with_reducible assumption | refine .s ?_ ?_ | refine .m ?_ ?_ | refine .l ?_ ?_ | refine .d ?_ | refine .e ?_ | (simp <;> omega) | omega)
  · obtain ⟨d, hd⟩ : ∃ d, pdeg p = d := ⟨_, rfl⟩
    have HD := Lib.hid hd
    rw [hd] at HW
    clear hd
    have hu8 : usesN p < 256 := usesN_lt (suppN_lt8 HX.out.len8)
    have HE : Hid (withinB p n = (((usesN p : Int) / (2 ^ n) == 0) && decide (d ≤ 12))) := Lib.hid (by rw [HW.out, shr_zero]; simp [Bool.and_comm])
    obtain ⟨u, hu⟩ : ∃ u, usesN p = u := ⟨_, rfl⟩
    have HU := Lib.hid hu
    rw [hu] at HE hu8
    clear hu
    obtain ⟨s, hs⟩ : ∃ s : Bool, ((u : Int) / (2 ^ n) == 0) = s := ⟨_, rfl⟩
    have HS := Lib.hid hs
    rw [hs] at HE
    have huv : ∀ w', RP w' ex A m c p → Calls Tryz.prog 89 #[.slice A m c] w' (RetV w' (.int .u8 u)) := fun w' h => by
      have := puses_ok w' ex A m c p h HG.out.exps hm
      rwa [HU.out] at this
    have hdv : ∀ w', RP w' ex A m c p → Calls Tryz.prog 46 #[.slice A m c] w' (RetV w' (.int .i64 d)) := fun w' h => by
      have := pdegree_ok w' ex A m c p h HG.out.exps hm
      rwa [HD.out] at this
    cases s
    · have HZ := Lib.hid hs
      clear hs
      have hE2 : (false && decide (d ≤ 12)) = false := rfl
      rw [hE2] at HE
      go_enter Tryz.func103, Tryz.ntmps103
      go_wp2_with fail
      have hz1 := HZ.out
      first | go_region_with (first | (go_at_call 88; refine (hval _ (HX.out.mono (Kr.of_below (by repeat first | with_reducible exact .refl .. | with_reducible assumption | refine .s ?_ ?_ | refine .m ?_ ?_ | refine .l ?_ ?_ | refine .d ?_ | refine .e ?_ | (simp <;> omega) | omega) _))).mono ?_; rintro e w1 ⟨X, D, rfl, rfl⟩) | (go_at_call 89; refine (huv _ (HX.out.mono (Kr.of_below (by repeat first | with_reducible exact .refl .. | with_reducible assumption | refine .s ?_ ?_ | refine .m ?_ ?_ | refine .l ?_ ?_ | refine .d ?_ | refine .e ?_ | (simp <;> omega) | omega) _))).mono ?_; rintro e w1 ⟨X2, D2, rfl, rfl⟩) | (go_at_call 46; refine (hdv _ (HX.out.mono (Kr.of_below (by repeat first | with_reducible exact .refl .. | with_reducible assumption | refine .s ?_ ?_ | refine .m ?_ ?_ | refine .l ?_ ?_ | refine .d ?_ | refine .e ?_ | (simp <;> omega) | omega) _))).mono ?_; rintro e w1 ⟨X3, D3, rfl, rfl⟩)) | fail
      all_goals
        go_wp2_with fail
        go_ret
        rw [HE.out]
        exact RetV.mk (by simp [HZ.out, Act.put, go_sem, ↓IntWalk.iteOmega]) (by repeat first | with_reducible exact .refl .. | with_reducible assumption | refine .s ?_ ?_ | refine .m ?_ ?_ | refine .l ?_ ?_ | refine .d ?_ | refine .e ?_ | (simp <;> omega) | omega)
    · have HZ := Lib.hid hs
      clear hs
      by_cases h12 : d ≤ 12
      · have hE2 : (true && decide (d ≤ 12)) = true := by simp [h12]
        rw [hE2] at HE
        go_enter Tryz.func103, Tryz.ntmps103
        go_wp2_with fail
        have hz1 := HZ.out
        have hz2 : decide (d ≤ 12) = true := by simpa using h12
        first | go_region_with (first | (go_at_call 88; refine (hval _ (HX.out.mono (Kr.of_below (by repeat first | with_reducible exact .refl .. | with_reducible assumption | refine .s ?_ ?_ | refine .m ?_ ?_ | refine .l ?_ ?_ | refine .d ?_ | refine .e ?_ | (simp <;> omega) | omega) _))).mono ?_; rintro e w1 ⟨X, D, rfl, rfl⟩) | (go_at_call 89; refine (huv _ (HX.out.mono (Kr.of_below (by repeat first | with_reducible exact .refl .. | with_reducible assumption | refine .s ?_ ?_ | refine .m ?_ ?_ | refine .l ?_ ?_ | refine .d ?_ | refine .e ?_ | (simp <;> omega) | omega) _))).mono ?_; rintro e w1 ⟨X2, D2, rfl, rfl⟩) | (go_at_call 46; refine (hdv _ (HX.out.mono (Kr.of_below (by repeat first | with_reducible exact .refl .. | with_reducible assumption | refine .s ?_ ?_ | refine .m ?_ ?_ | refine .l ?_ ?_ | refine .d ?_ | refine .e ?_ | (simp <;> omega) | omega) _))).mono ?_; rintro e w1 ⟨X3, D3, rfl, rfl⟩)) | fail
        all_goals
          go_wp2_with fail
          go_ret
          rw [HE.out]
          exact RetV.mk (by simp [HZ.out, h12, Act.put, go_sem, ↓IntWalk.iteOmega]) (by repeat first | with_reducible exact .refl .. | with_reducible assumption | refine .s ?_ ?_ | refine .m ?_ ?_ | refine .l ?_ ?_ | refine .d ?_ | refine .e ?_ | (simp <;> omega) | omega)
      · have hE2 : (true && decide (d ≤ 12)) = false := by simp [h12]
        rw [hE2] at HE
        go_enter Tryz.func103, Tryz.ntmps103
        go_wp2_with fail
        have hz1 := HZ.out
        have hz2 : decide (d ≤ 12) = false := by simpa using h12
        first | go_region_with (first | (go_at_call 88; refine (hval _ (HX.out.mono (Kr.of_below (by repeat first | with_reducible exact .refl .. | with_reducible assumption | refine .s ?_ ?_ | refine .m ?_ ?_ | refine .l ?_ ?_ | refine .d ?_ | refine .e ?_ | (simp <;> omega) | omega) _))).mono ?_; rintro e w1 ⟨X, D, rfl, rfl⟩) | (go_at_call 89; refine (huv _ (HX.out.mono (Kr.of_below (by repeat first | with_reducible exact .refl .. | with_reducible assumption | refine .s ?_ ?_ | refine .m ?_ ?_ | refine .l ?_ ?_ | refine .d ?_ | refine .e ?_ | (simp <;> omega) | omega) _))).mono ?_; rintro e w1 ⟨X2, D2, rfl, rfl⟩) | (go_at_call 46; refine (hdv _ (HX.out.mono (Kr.of_below (by repeat first | with_reducible exact .refl .. | with_reducible assumption | refine .s ?_ ?_ | refine .m ?_ ?_ | refine .l ?_ ?_ | refine .d ?_ | refine .e ?_ | (simp <;> omega) | omega) _))).mono ?_; rintro e w1 ⟨X3, D3, rfl, rfl⟩)) | fail
        all_goals
          go_wp2_with fail
          go_ret
          rw [HE.out]
          exact RetV.mk (by simp [HZ.out, h12, Act.put, go_sem, ↓IntWalk.iteOmega]) (by repeat first | with_reducible exact .refl .. | with_reducible assumption | refine .s ?_ ?_ | refine .m ?_ ?_ | refine .l ?_ ?_ | refine .d ?_ | refine .e ?_ | (simp <;> omega) | omega)

end Go.Proofs.YthhdleppkggepaaGreat

/-
  The walks of slices.IndexFunc, slices.ContainsFunc over polynomials; the closure of system.Normal.
-/
namespace Go.Proofs.YthhdleppkggepaaGreat
open Go.RowKit Go.Deep
set_option maxRecDepth 100000

def idxOf (l : List (List (Rat × List Int))) (f : List (Rat × List Int) → Bool) : Int := match l.findIdx? f with | some i => (i : Int) | none => -1
theorem idxOf_found {l : List (List (Rat × List Int))} {f : List (Rat × List Int) → Bool} {k : Nat} (hk : k < l.length) (h : f l[k] = true) (hb : ∀ j (hj : j < l.length), j < k → f l[j] = false) : idxOf l f = k := by
  unfold idxOf
  have : l.findIdx? f = some k := by
    rw [List.findIdx?_eq_some_iff_getElem]
    exact ⟨hk, h, fun j hj => by rw [hb j (by omega) hj]; simp⟩
  rw [this]
theorem idxOf_none {l : List (List (Rat × List Int))} {f : List (Rat × List Int) → Bool} (hb : ∀ j (hj : j < l.length), j < l.length → f l[j] = false) : idxOf l f = -1 := by
  unfold idxOf
  have : l.findIdx? f = none := by
    rw [List.findIdx?_eq_none_iff]
    intro x hx
    obtain ⟨j, hj, rfl⟩ := List.getElem_of_mem hx
    exact hb j hj hj
  rw [this]
theorem idxOf_any (l : List (List (Rat × List Int))) (f : List (Rat × List Int) → Bool) : decide (0 ≤ idxOf l f) = l.any f := by
  unfold idxOf
  rw [Bool.eq_iff_iff, decide_eq_true_eq, List.any_eq_true]
  cases h : l.findIdx? f with
  | none =>
    rw [List.findIdx?_eq_none_iff] at h
    constructor
    · intro h2; simp at h2
    · rintro ⟨x, hx, hf⟩; rw [h x hx] at hf; cases hf
  | some i =>
    rw [List.findIdx?_eq_some_iff_getElem] at h
    obtain ⟨hi, h1, _⟩ := h
    exact ⟨fun _ => ⟨_, List.getElem_mem hi, h1⟩, fun _ => by simp⟩

/-- What is asked of a closure that tells polynomials apart. -/
def Tells (g : Nat) (cb : Array Value) (w : World) (ex : List Nat) (l : List (List (Rat × List Int))) (f : List (Rat × List Int) → Bool) : Prop :=
  ∀ w', Below w.heap.size w w' → ∀ (A : Option Addr) (m c : Nat) (p : List (Rat × List Int)), p ∈ l → RP w' ex A m c p → Calls Tryz.prog g (#[.slice A m c] ++ cb) w' (RetV w' (.bool (f p)))

set_option maxHeartbeats 2000000 in
theorem indexP_ok (w : World) (ex : List Nat) (A : Option Addr) (n c : Nat) (l : List (List (Rat × List Int))) (g : Nat) (cb : Array Value) (f : List (Rat × List Int) → Bool)
    (eg : ∀ args w, (callFunc g args).run Tryz.prog w = .ok (.enter g args) w) (hx : RL poE w ex A n c l) (hf : Tells g cb w ex l f) (hn : n ≤ 1000000000) :
    Calls Tryz.prog 90 #[.slice A n c, .func (Fn.func g) #[] cb] w (RetV w (.int .i64 (idxOf l f))) := by
  have HL := Lib.hid hx.len
  have hcap := hx.cap
  have HF := Lib.hid hf
  have HX := Lib.hid hx
  clear hf hx
  go_enter Tryz.func90, Tryz.ntmps90
  go_wp2_with fail
  go_loopw [5, 8] (fun _ i wr => ∃ k : Nat, k ≤ n ∧ i = .int .i64 k ∧ Hid (∀ j (hj : j < l.length), j < k → f l[j] = false) ∧ Below w.heap.size w wr) (fun _ i _ => n - (intOf i).toNat)
  case atStart => exact ⟨0, Nat.zero_le _, rfl, fun j _ h => by omega, Below.refl _ _⟩
  case round =>
    obtain ⟨k, hk, rfl, HB, hb⟩ := hrel
    by_cases hlt : k < n
    · have hkl : k < l.length := by have := HL.out; omega
      have hxw := HX.out.mono (Kr.of_below hb ex)
      obtain ⟨b, o, rfl, _, _⟩ := hxw.some_ (by omega)
      obtain ⟨A1, m1, c1, hcell, hp⟩ := hxw.poly hkl
      have hcall := HF.out wr hb A1 m1 c1 _ (List.getElem_mem hkl) hp
      clear hp hxw
      obtain ⟨v, hv⟩ : ∃ v, f l[k] = v := ⟨_, rfl⟩
      have HV := Lib.hid hv
      rw [hv] at hcall
      clear hv
      have hi1 : (k : Int) < (n : Int) := by omega
      cases v
      · go_wp2_with fail
        refine hcall.mono ?_; rintro e w1 ⟨X, D, rfl, rfl⟩
        go_wp2_with fail
        go_roundw
        case rel =>
          refine ⟨k + 1, by omega, by go_num, ?_, Below.more hb hb.size _ _⟩
          intro j hj hjk
          by_cases e : j = k
          · subst e; exact HV.out
          · exact HB.out j hj (by omega)
        case measure => simp [intOf]; omega
      · have HE := Lib.hid (idxOf_found hkl HV.out HB.out)
        go_wp2_with fail
        refine hcall.mono ?_; rintro e w1 ⟨X, D, rfl, rfl⟩
        go_wp2_with fail
        go_ret
        rw [HE.out]
        exact RetV.mk rfl (Below.more hb hb.size _ _)
    · obtain rfl : k = n := by omega
      have HE := Lib.hid (idxOf_none (l := l) (f := f) (fun j hj _ => HB.out j hj (by have := HL.out; omega)))
      go_wp2_with fail
      go_ret
      rw [HE.out]
      exact RetV.mk rfl hb

set_option maxHeartbeats 400000 in
theorem containsP_ok (w : World) (ex : List Nat) (A : Option Addr) (n c : Nat) (l : List (List (Rat × List Int))) (g : Nat) (cb : Array Value) (f : List (Rat × List Int) → Bool)
    (eg : ∀ args w, (callFunc g args).run Tryz.prog w = .ok (.enter g args) w) (hx : RL poE w ex A n c l) (hf : Tells g cb w ex l f) (hn : n ≤ 1000000000) :
    Calls Tryz.prog 45 #[.slice A n c, .func (Fn.func g) #[] cb] w (RetV w (.bool (l.any f))) := by
  have h1 := indexP_ok w ex A n c l g cb f eg hx hf hn
  clear hf
  go_enter Tryz.func45, Tryz.ntmps45
  go_wp2_with fail
  refine h1.mono ?_; rintro e w1 ⟨X, D, rfl, rfl⟩
  go_wp2_with fail
  go_ret
  rw [← idxOf_any]
  exact RetV.mk rfl (by repeat first | with_reducible exact .refl .. | with_reducible assumption | refine .s ?_ ?_ | refine .m ?_ ?_ | refine .l ?_ ?_ | refine .d ?_ | refine .e ?_ | (simp <;> omega) | omega)

set_option maxHeartbeats 400000 in
theorem normal1_ok (w : World) (ex : List Nat) (A : Option Addr) (m c : Nat) (p : List (Rat × List Int)) (b n : Nat) (hx : RP w ex A m c p) (hg : GP p) (hn : n ≤ 4) (hc : w.cell? ⟨b, 0, none⟩ = some (.int .i64 n)) :
    Calls Tryz.prog 43 #[.slice A m c, .pointer (some ⟨b, 0, none⟩)] w (RetV w (.bool (!withinB p n))) := by
  go_enter Tryz.func43, Tryz.ntmps43
  go_wp2_with fail
  refine (within_ok _ ex A m c p n hx hg hn).mono ?_; rintro e w1 ⟨X, D, rfl, rfl⟩
  go_wp2_with fail
  go_ret
  exact RetV.mk rfl (by repeat first | with_reducible exact .refl .. | with_reducible assumption | refine .s ?_ ?_ | refine .m ?_ ?_ | refine .l ?_ ?_ | refine .d ?_ | refine .e ?_ | (simp <;> omega) | omega)

end Go.Proofs.YthhdleppkggepaaGreat

/-
  The walk of the reference of package monomial: the product.
-/
namespace Go.Proofs.YthhdleppkggepaaGreat
open Go.RowKit Go.Deep
set_option maxRecDepth 100000

/-- A block of whole numbers. -/
def IBuf (t : TypeId) (w : World) (g : Nat) (os : List Int) : Prop := w.heap[g]? = some (.cells (os.map (Value.int .i64)).toArray t (0, 0))
section
variable {t : TypeId} {w w' : World} {g : Nat} {os : List Int}
theorem IBuf.cell (h : IBuf t w g os) {i : Nat} (hi : i < os.length) : w.cell? ⟨g, i, none⟩ = some (.int .i64 (os.getD i 0)) := by
  rw [cell_of_row w g i _ t (0, 0) h]; simp [hi]
theorem IBuf.frozen (h : IBuf t w g os) (i : Nat) : w.frozen? ⟨g, i, none⟩ = false := frozen_of_row w g i _ t h
theorem IBuf.set (h : IBuf t w g os) (i : Nat) (x : Int) : IBuf t (w.setCell ⟨g, i, none⟩ (.int .i64 x)) g (os.set i x) := by
  unfold IBuf at h ⊢
  simp [World.setCell, Array.getElem?_modify, h, List.map_set]
theorem IBuf.of (h : IBuf t w g os) (e : w'.heap[g]? = w.heap[g]?) : IBuf t w' g os := e.trans h
theorem IBuf.far (h : IBuf t w g os) {p : Addr} (hp : g ≠ p.block) (u : Value) : IBuf t (w.setCell p u) g os := h.of (Below.heap_setCell _ _ _ _ hp)
theorem IBuf.drew (h : IBuf t w g os) : IBuf t w.drew g os := h.of rfl
end

set_option maxHeartbeats 2000000 in
theorem r4mul_ok (w : World) (e0 e1 e2 e3 e4 e5 e6 e7 f0 f1 f2 f3 f4 f5 f6 f7 : Int) (he : Exps [e0, e1, e2, e3, e4, e5, e6, e7]) (hf : Exps [f0, f1, f2, f3, f4, f5, f6, f7]) (hp : Exps [e0 + f0, e1 + f1, e2 + f2, e3 + f3, e4 + f4, e5 + f5, e6 + f6, e7 + f7]) :
    Calls Tryz.prog 67 #[.agg #[.int .i64 e0, .int .i64 e1, .int .i64 e2, .int .i64 e3, .int .i64 e4, .int .i64 e5, .int .i64 e6, .int .i64 e7], .agg #[.int .i64 f0, .int .i64 f1, .int .i64 f2, .int .i64 f3, .int .i64 f4, .int .i64 f5, .int .i64 f6, .int .i64 f7]] w (RetV w (.tuple #[.agg #[.int .i64 (e0 + f0), .int .i64 (e1 + f1), .int .i64 (e2 + f2), .int .i64 (e3 + f3), .int .i64 (e4 + f4), .int .i64 (e5 + f5), .int .i64 (e6 + f6), .int .i64 (e7 + f7)], .int .i64 0])) := by
  have HE := Lib.hid he
  have HF := Lib.hid hf
  clear he hf
  go_enter Tryz.func67, Tryz.ntmps67
  go_wp2_with fail
  go_loopw [6] (fun i wr => ∃ (k : Nat) (os : List Int), k ≤ 8 ∧ i = .int .i64 k ∧ os.length = 8 ∧ Hid (∀ j, os.getD j 0 = if j < k then [e0, e1, e2, e3, e4, e5, e6, e7].getD j 0 + [f0, f1, f2, f3, f4, f5, f6, f7].getD j 0 else [e0, e1, e2, e3, e4, e5, e6, e7].getD j 0) ∧
      IBuf 68 wr w.heap.size os ∧ IBuf 68 wr (w.heap.size + 1) [f0, f1, f2, f3, f4, f5, f6, f7] ∧ IBuf 68 wr (w.heap.size + 2) [0, 0, 0, 0, 0, 0, 0, 0] ∧ Below w.heap.size w wr) (fun i _ => 8 - (intOf i).toNat)
  case atStart =>
    refine ⟨0, [e0, e1, e2, e3, e4, e5, e6, e7], Nat.zero_le _, rfl, rfl, fun j => by rw [if_neg (by omega)], ?_, ?_, ?_, (by repeat first | with_reducible exact .refl .. | with_reducible assumption | refine .s ?_ ?_ | refine .m ?_ ?_ | refine .l ?_ ?_ | refine .d ?_ | refine .e ?_ | (simp <;> omega) | omega)⟩
    · unfold IBuf; rw [Below.heap_alloc _ _ _ (by simp; omega), Below.heap_alloc _ _ _ (by simp), heap_alloc_new]; rfl
    · unfold IBuf; rw [Below.heap_alloc _ _ _ (by simp)]; have hh := heap_alloc_new (w.alloc (.cells #[.int .i64 e0, .int .i64 e1, .int .i64 e2, .int .i64 e3, .int .i64 e4, .int .i64 e5, .int .i64 e6, .int .i64 e7] 68)) (.cells #[.int .i64 f0, .int .i64 f1, .int .i64 f2, .int .i64 f3, .int .i64 f4, .int .i64 f5, .int .i64 f6, .int .i64 f7] 68); rw [World.size_alloc] at hh; exact hh
    · unfold IBuf; have hh := heap_alloc_new ((w.alloc (.cells #[.int .i64 e0, .int .i64 e1, .int .i64 e2, .int .i64 e3, .int .i64 e4, .int .i64 e5, .int .i64 e6, .int .i64 e7] 68)).alloc (.cells #[.int .i64 f0, .int .i64 f1, .int .i64 f2, .int .i64 f3, .int .i64 f4, .int .i64 f5, .int .i64 f6, .int .i64 f7] 68)) (.cells #[.int .i64 0, .int .i64 0, .int .i64 0, .int .i64 0, .int .i64 0, .int .i64 0, .int .i64 0, .int .i64 0] 68); rw [World.size_alloc, World.size_alloc] at hh; exact hh
  case round =>
    obtain ⟨k, os, hk, rfl, hlen, HO, hb0, hb1, hb2, hbel⟩ := hrel
    by_cases hlt : k < 8
    · have hc1 := hb0.cell (i := k) (by omega)
      have hc2 := hb1.cell (i := k) hlt
      have hfz := hb0.frozen k
      have hke := HO.out k
      rw [if_neg (by omega)] at hke
      have hbe := HE.out k
      have hbf := HF.out k
      obtain ⟨x, hx⟩ : ∃ x : Int, [e0, e1, e2, e3, e4, e5, e6, e7].getD k 0 = x := ⟨_, rfl⟩
      obtain ⟨y, hy⟩ : ∃ y : Int, [f0, f1, f2, f3, f4, f5, f6, f7].getD k 0 = y := ⟨_, rfl⟩
      rw [hke, hx] at hc1
      rw [hy] at hc2 hbf
      rw [hx] at hbe
      obtain ⟨p1, p2⟩ := hbe
      obtain ⟨p3, p4⟩ := hbf
      have HX := Lib.hid (And.intro hx hy); clear hx hy hke
      go_wp2_with fail
      have hwr : IntKind.i64.wrap (x + y) = x + y := by simp [IntKind.wrap, IntKind.bits, IntKind.signed]; omega
      go_region
      all_goals
        go_wp2_with fail
        go_roundw
        case rel =>
          refine ⟨k + 1, os.set k (x + y), by omega, by go_num, by simpa using hlen, ?_, (hb0.drew.set k (x + y)), hb1.drew.far (by simp) _, hb2.drew.far (by simp) _, hbel.drew.setCell (Nat.le_refl _) _⟩
          intro j
          have h2 := HO.out j
          by_cases hj : j = k
          · subst hj
            rw [if_pos (by omega), HX.out.1, HX.out.2]
            rw [List.getD_eq_getElem?_getD, List.getElem?_set_self (by omega)]; rfl
          · rw [List.getD_eq_getElem?_getD, List.getElem?_set_ne (by omega), ← List.getD_eq_getElem?_getD, h2]
            by_cases hj2 : j < k
            · rw [if_pos hj2, if_pos (by omega)]
            · rw [if_neg hj2, if_neg (by omega)]
        case measure => simp [intOf]; omega
    · obtain rfl : k = 8 := by omega
      clear hb1
      have o0 := hb0.cell (i := 0) (by omega); rw [HO.out 0, if_pos (by decide)] at o0; simp only [List.getD_cons_zero, List.getD_cons_succ] at o0
      have o1 := hb0.cell (i := 1) (by omega); rw [HO.out 1, if_pos (by decide)] at o1; simp only [List.getD_cons_zero, List.getD_cons_succ] at o1
      have o2 := hb0.cell (i := 2) (by omega); rw [HO.out 2, if_pos (by decide)] at o2; simp only [List.getD_cons_zero, List.getD_cons_succ] at o2
      have o3 := hb0.cell (i := 3) (by omega); rw [HO.out 3, if_pos (by decide)] at o3; simp only [List.getD_cons_zero, List.getD_cons_succ] at o3
      have o4 := hb0.cell (i := 4) (by omega); rw [HO.out 4, if_pos (by decide)] at o4; simp only [List.getD_cons_zero, List.getD_cons_succ] at o4
      have o5 := hb0.cell (i := 5) (by omega); rw [HO.out 5, if_pos (by decide)] at o5; simp only [List.getD_cons_zero, List.getD_cons_succ] at o5
      have o6 := hb0.cell (i := 6) (by omega); rw [HO.out 6, if_pos (by decide)] at o6; simp only [List.getD_cons_zero, List.getD_cons_succ] at o6
      have o7 := hb0.cell (i := 7) (by omega); rw [HO.out 7, if_pos (by decide)] at o7; simp only [List.getD_cons_zero, List.getD_cons_succ] at o7
      have z0 : wr.cell? ⟨w.heap.size + 2, 0, none⟩ = some (.int .i64 0) := hb2.cell (i := 0) (by decide)
      have y0 := hb2.frozen 0
      have z1 : wr.cell? ⟨w.heap.size + 2, 1, none⟩ = some (.int .i64 0) := hb2.cell (i := 1) (by decide)
      have y1 := hb2.frozen 1
      have z2 : wr.cell? ⟨w.heap.size + 2, 2, none⟩ = some (.int .i64 0) := hb2.cell (i := 2) (by decide)
      have y2 := hb2.frozen 2
      have z3 : wr.cell? ⟨w.heap.size + 2, 3, none⟩ = some (.int .i64 0) := hb2.cell (i := 3) (by decide)
      have y3 := hb2.frozen 3
      have z4 : wr.cell? ⟨w.heap.size + 2, 4, none⟩ = some (.int .i64 0) := hb2.cell (i := 4) (by decide)
      have y4 := hb2.frozen 4
      have z5 : wr.cell? ⟨w.heap.size + 2, 5, none⟩ = some (.int .i64 0) := hb2.cell (i := 5) (by decide)
      have y5 := hb2.frozen 5
      have z6 : wr.cell? ⟨w.heap.size + 2, 6, none⟩ = some (.int .i64 0) := hb2.cell (i := 6) (by decide)
      have y6 := hb2.frozen 6
      have z7 : wr.cell? ⟨w.heap.size + 2, 7, none⟩ = some (.int .i64 0) := hb2.cell (i := 7) (by decide)
      have y7 := hb2.frozen 7
      clear hb0 hb2
      have hsz := hbel.size
      have HL := Lib.hid hlen; clear hlen
      go_wp2_with fail
      refine (r4valid_ok _ _ _ _ _ _ _ _ _ hp).mono ?_; rintro e w1 ⟨X, D, rfl, rfl⟩
      go_wp2_with fail
      refine bodyPost_ret (v := .tuple #[.agg #[.int .i64 (e0 + f0), .int .i64 (e1 + f1), .int .i64 (e2 + f2), .int .i64 (e3 + f3), .int .i64 (e4 + f4), .int .i64 (e5 + f5), .int .i64 (e6 + f6), .int .i64 (e7 + f7)], .int .i64 0]) (by simp [results, Tryz.results67, *, go_sem, ↓IntWalk.iteOmega]) rfl (RetV.mk rfl (by repeat first | with_reducible exact .refl .. | with_reducible assumption | refine .s ?_ ?_ | refine .m ?_ ?_ | refine .l ?_ ?_ | refine .d ?_ | refine .e ?_ | (simp <;> omega) | omega))

end Go.Proofs.YthhdleppkggepaaGreat
