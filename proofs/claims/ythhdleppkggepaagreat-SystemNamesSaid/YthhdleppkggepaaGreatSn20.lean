/-
  The bytes that the reference of package claim writes: Poly, Polys.
-/
import Derived.Test.YthhdleppkggepaaGreatSn18
import Derived.Test.YthhdleppkggepaaGreatSn19

set_option linter.unusedSimpArgs false
set_option linter.unusedVariables false
set_option linter.unusedSectionVars false

namespace Go.Proofs.YthhdleppkggepaaGreat
open Go.RowKit Go.Deep
set_option maxRecDepth 100000

theorem termB_eq (q : Rat) (m : List Int) : termB (q, m) = ratB q ++ monB m := by unfold termB; rfl

set_option maxHeartbeats 1000000 in
theorem rpoly_ok (w : World) (base : Nat) (v : Value) (bs : List Nat) (ex : List Nat) (A : Option Addr) (n c : Nat) (pol : List (Rat × List Int)) (hs : OwnL byE w base [] v bs) (hbase : base ≤ w.heap.size) (hx : RP w (own v ++ ex) A n c pol) (hm : PExps pol) (hn : n ≤ 1000000000) (hl : bs.length + (polB pol).length ≤ 10000000000) :
    Calls Tryz.prog 160 #[v, .slice A n c] w (RetAp w base v (bs ++ polB pol)) := by
  have HLn := Lib.hid hx.len
  have hcap := hx.cap
  have HX := Lib.hid hx
  have HM := Lib.hid hm
  have HL := Lib.hid (show bs.length + (natB n).length + (pol.flatMap termB).length ≤ 10000000000 by
    have e : (polB pol).length = (natB pol.length).length + (pol.flatMap termB).length := by unfold polB; rw [List.length_append]
    rw [HLn.out]; omega)
  have HC := Lib.hid (rnat_ok w base v bs n hs hbase (by omega) (by have := HL.out; omega))
  have HPo := Lib.hid (show bs ++ polB pol = bs ++ natB n ++ pol.flatMap termB by unfold polB; rw [HLn.out, List.append_assoc])
  clear hs hx hm hl
  go_enter Tryz.func160, Tryz.ntmps160
  go_wp2_with fail
  refine HC.out.mono ?_; rintro e w1 ⟨v1, rfl, hw1, hk1, hb1, hbs1⟩
  go_wp2_with fail
  have HX1 := Lib.hid (HX.out.mono (hk1 ex))
  generalize hB1 : bs ++ natB n = B1 at *
  have HB1 := Lib.hid hB1
  clear hB1
  go_loopw [0, 5] (fun v' i wr => ∃ (k : Nat) (y : Value), y = v' ∧ k ≤ n ∧ i = .int .i64 k ∧ OwnL byE wr base [] y (B1 ++ (pol.take k).flatMap termB) ∧ (∀ ex, Kr w1 (own v1 ++ ex) wr (own y ++ ex)) ∧ Below base w wr ∧ base ≤ wr.heap.size) (fun _ i _ => n - (intOf i).toNat)
  case atStart => exact ⟨0, v1, rfl, Nat.zero_le _, rfl, by simpa using hw1, fun _ => Kr.refl _ _, hb1, hbs1⟩
  case round =>
    obtain ⟨wo, hwo⟩ : ∃ x, x = wr := ⟨_, rfl⟩
    subst hwo
    obtain ⟨k, v', rfl, hk, rfl, hw, hkr, hb, hbs⟩ := hrel
    by_cases hlt : k < n
    · have hxw := HX1.out.mono (hkr ex)
      obtain ⟨b, o, rfl, hbx, hbl, ht⟩ := hxw.at_ (by omega)
      have hkl : k < pol.length := by rw [← HLn.out]; exact hlt
      obtain ⟨s1, A1, n1, c1, s2, A2, n2, c2, e0, e1, e2, e3, e4, e5, e6, e7, h0, h1, h2, h3, h4, h5, h6, h7, h8, h9, h10, h11, hq, hm⟩ := ht k hkl
      have hE : Exps [e0, e1, e2, e3, e4, e5, e6, e7] := by rw [← hm]; exact HM.out _ (List.getElem_mem hkl)
      have hT : (pol[k] : Rat × List Int) = (pol[k].1, [e0, e1, e2, e3, e4, e5, e6, e7]) := by rw [← hm]
      have HT := Lib.hid (show B1 ++ (pol.take (k + 1)).flatMap termB = B1 ++ (pol.take k).flatMap termB ++ ratB pol[k].1 ++ monB [e0, e1, e2, e3, e4, e5, e6, e7] by
        rw [List.append_assoc (B1 ++ (pol.take k).flatMap termB), ← termB_eq, ← hT, flat_take _ _ hkl, ← List.append_assoc])
      have hll : (B1 ++ (pol.take k).flatMap termB ++ ratB pol[k].1 ++ monB [e0, e1, e2, e3, e4, e5, e6, e7]).length ≤ 10000000000 := by
        rw [← HT.out, List.length_append]
        have := flat_take_le termB pol (k + 1)
        have := HL.out
        have := congrArg List.length HB1.out
        rw [List.length_append] at this
        omega
      rw [List.length_append] at hll
      have hi1 : (k : Int) < (n : Int) := by omega
      clear ht hxw hT hm
      generalize pol[k].1 = qq at *
      have HE := Lib.hid hE
      have HW := Lib.hid hw
      generalize hL : B1 ++ (pol.take k).flatMap termB = L at *
      have HC3 := Lib.hid (rrational_ok wo base v' L ex s1 A1 n1 c1 s2 A2 n2 c2 qq hw hbs hq (by rw [List.length_append] at hll; omega))
      have hbx' : b ∉ own v' ++ ([] : List Nat) := by
        intro hh; apply hbx; rw [List.append_nil] at hh; exact List.mem_append_left _ hh
      clear hL hw
      go_wp2_with fail
      refine HC3.out.mono ?_; rintro e w2 ⟨v2, rfl, hw2, hk2, hb2, hbs2⟩
      have hcells : ∀ j, j < 8 → w2.cell? ⟨b, o + k * 12 + 4 + j, none⟩ = some (.int .i64 ([e0, e1, e2, e3, e4, e5, e6, e7].getD j 0)) := by
        intro j hj
        have hs := (hk2 []).cell (b := b) hbl hbx' (o + k * 12 + 4 + j)
        rw [hs]
        obtain rfl | rfl | rfl | rfl | rfl | rfl | rfl | rfl : j = 0 ∨ j = 1 ∨ j = 2 ∨ j = 3 ∨ j = 4 ∨ j = 5 ∨ j = 6 ∨ j = 7 := by omega
        all_goals (first | exact h4 | exact h5 | exact h6 | exact h7 | exact h8 | exact h9 | exact h10 | exact h11)
      have hoff : b ∉ own v2 ++ ([] : List Nat) := (hk2 []).out b hbl hbx'
      have hbl2 : b < w2.heap.size := Nat.lt_of_lt_of_le hbl (hk2 []).size
      clear h0 h1 h2 h3 h4 h5 h6 h7 h8 h9 h10 h11
      go_wp2_with fail
      have hbw : Below base w w2 := hb.trans hb2
      go_loopw [0, 6] (fun v' i wr => ∃ (j : Nat) (y : Value), y = v' ∧ j ≤ 8 ∧ i = .int .i64 j ∧ OwnL byE wr base [] y (L ++ ratB qq ++ monB ([e0, e1, e2, e3, e4, e5, e6, e7].take j)) ∧ (∀ ex, Kr w2 (own v2 ++ ex) wr (own y ++ ex)) ∧ Below base w wr ∧ base ≤ wr.heap.size) (fun _ i _ => 8 - (intOf i).toNat)
      case atStart => exact ⟨0, v2, rfl, Nat.zero_le _, rfl, by simpa [monB] using hw2, fun _ => Kr.refl _ _, hbw, hbs2⟩
      case round =>
        obtain ⟨j, v3, rfl, hj, rfl, hw3, hk3, hb3, hbs3⟩ := hrel
        by_cases hlt8 : j < 8
        · have hbe := HE.out j
          have hcj := ((hk3 []).cell (b := b) hbl2 hoff (o + k * 12 + 4 + j)).trans (hcells j hlt8)
          have HT2 := Lib.hid (show L ++ ratB qq ++ monB ([e0, e1, e2, e3, e4, e5, e6, e7].take (j + 1)) = L ++ ratB qq ++ monB ([e0, e1, e2, e3, e4, e5, e6, e7].take j) ++ natB ([e0, e1, e2, e3, e4, e5, e6, e7].getD j 0).toNat by
            rw [monB_take _ (by simpa using hlt8)]; simp only [List.append_assoc])
          have hl3 : (L ++ ratB qq ++ monB ([e0, e1, e2, e3, e4, e5, e6, e7].take j) ++ natB ([e0, e1, e2, e3, e4, e5, e6, e7].getD j 0).toNat).length ≤ 10000000000 := by
            rw [← HT2.out, List.length_append]
            have := monB_take_le [e0, e1, e2, e3, e4, e5, e6, e7] (j + 1)
            omega
          obtain ⟨x, hx⟩ : ∃ x : Int, [e0, e1, e2, e3, e4, e5, e6, e7].getD j 0 = x := ⟨_, rfl⟩
          rw [hx] at hcj hbe HT2 hl3
          clear hx
          obtain ⟨y, rfl⟩ := Int.eq_ofNat_of_zero_le hbe.1
          rw [Int.toNat_natCast] at HT2 hl3
          have hy : y ≤ 65535 := by have := hbe.2; omega
          rw [List.length_append] at hl3
          have hj8 : (j : Int) < 8 := by omega
          have HC4 := Lib.hid (rnat_ok wr base v3 _ y hw3 hbs3 (by omega) hl3)
          clear hw3 hl3 hbe hcells
          go_wp2_with fail
          refine HC4.out.mono ?_; rintro e w4 ⟨v4, rfl, hw4, hk4, hb4, hbs4⟩
          go_wp2_with fail
          go_roundw
          case rel => exact ⟨j + 1, v4, rfl, by omega, by go_num, by rw [HT2.out]; exact hw4, fun ex' => (hk3 ex').trans (hk4 ex'), hb3.trans hb4, hbs4⟩
          case measure => simp [intOf]; omega
        · obtain rfl : j = 8 := by omega
          go_wp2_with fail
          go_roundw
          case rel => exact ⟨k + 1, v3, rfl, by omega, by go_num, by rw [HT.out]; exact hw3, fun ex' => ((hkr ex').trans (hk2 ex')).trans (hk3 ex'), hb3, hbs3⟩
          case measure => simp [intOf]; omega
    · obtain rfl : k = n := by omega
      go_wp2_with fail
      go_ret
      refine ⟨_, rfl, ?_, fun ex' => (hk1 ex').trans (hkr ex'), hb, hbs⟩
      rw [HPo.out, ← List.take_of_length_le (l := pol) (show pol.length ≤ k by rw [← HLn.out]; exact Nat.le_refl _)]
      exact hw

end Go.Proofs.YthhdleppkggepaaGreat

/-
  The bytes that the reference of package claim writes: Polys.
-/
namespace Go.Proofs.YthhdleppkggepaaGreat
open Go.RowKit Go.Deep
set_option maxRecDepth 100000

set_option maxHeartbeats 1000000 in
theorem rpolys_ok (w : World) (base : Nat) (v : Value) (bs : List Nat) (ex : List Nat) (A : Option Addr) (n c : Nat) (l : List (List (Rat × List Int))) (hs : OwnL byE w base [] v bs) (hbase : base ≤ w.heap.size) (hx : RL poE w (own v ++ ex) A n c l) (hm : ∀ p ∈ l, GP p) (hn : n ≤ 1000000000) (hl : bs.length + (polsB l).length ≤ 10000000000) :
    Calls Tryz.prog 108 #[v, .slice A n c] w (RetAp w base v (bs ++ polsB l)) := by
  have HLn := Lib.hid hx.len
  have hcap := hx.cap
  have HX := Lib.hid hx
  have HM := Lib.hid hm
  have HL := Lib.hid (show bs.length + (natB n).length + (l.flatMap polB).length ≤ 10000000000 by
    have e : (polsB l).length = (natB l.length).length + (l.flatMap polB).length := by unfold polsB; rw [List.length_append]
    rw [HLn.out]; omega)
  have HC := Lib.hid (rnat_ok w base v bs n hs hbase (by omega) (by have := HL.out; omega))
  have HPo := Lib.hid (show bs ++ polsB l = bs ++ natB n ++ l.flatMap polB by unfold polsB; rw [HLn.out, List.append_assoc])
  clear hs hx hm hl
  go_enter Tryz.func108, Tryz.ntmps108
  go_wp2_with fail
  refine HC.out.mono ?_; rintro e w1 ⟨v1, rfl, hw1, hk1, hb1, hbs1⟩
  go_wp2_with fail
  have HX1 := Lib.hid (HX.out.mono (hk1 ex))
  generalize hB1 : bs ++ natB n = B1 at *
  have HB1 := Lib.hid hB1
  clear hB1
  go_loopw [0, 5] (fun v' i wr => ∃ (k : Nat) (y : Value), y = v' ∧ k ≤ n ∧ i = .int .i64 k ∧ OwnL byE wr base [] y (B1 ++ (l.take k).flatMap polB) ∧ (∀ ex, Kr w1 (own v1 ++ ex) wr (own y ++ ex)) ∧ Below base w wr ∧ base ≤ wr.heap.size) (fun _ i _ => n - (intOf i).toNat)
  case atStart => exact ⟨0, v1, rfl, Nat.zero_le _, rfl, by simpa using hw1, fun _ => Kr.refl _ _, hb1, hbs1⟩
  case round =>
    obtain ⟨k, v', rfl, hk, rfl, hw, hkr, hb, hbs⟩ := hrel
    by_cases hlt : k < n
    · have hxw := HX1.out.mono (hkr ex)
      obtain ⟨b, o, rfl, hbx, hbl⟩ := hxw.some_ (by omega)
      have hkl : k < l.length := by rw [← HLn.out]; exact hlt
      obtain ⟨A3, m3, c3, hcell, hp3⟩ := hxw.poly hkl
      have hg3 := HM.out _ (List.getElem_mem hkl)
      have hm3 : m3 ≤ 1000000000 := by rw [hp3.len]; have := hg3.len; omega
      have HT := Lib.hid (show B1 ++ (l.take (k + 1)).flatMap polB = B1 ++ (l.take k).flatMap polB ++ polB l[k] by
        rw [flat_take _ _ hkl, ← List.append_assoc])
      have hll : (B1 ++ (l.take k).flatMap polB ++ polB l[k]).length ≤ 10000000000 := by
        rw [← HT.out, List.length_append]
        have := flat_take_le polB l (k + 1)
        have := HL.out
        have := congrArg List.length HB1.out
        rw [List.length_append] at this
        omega
      rw [List.length_append] at hll
      have hi1 : (k : Int) < (n : Int) := by omega
      have HC3 := Lib.hid (rpoly_ok wr base v' _ ex A3 m3 c3 l[k] hw hbs hp3 hg3.exps hm3 hll)
      clear hxw hll hp3 hg3
      go_wp2_with fail
      refine HC3.out.mono ?_; rintro e w2 ⟨v2, rfl, hw2, hk2, hb2, hbs2⟩
      go_wp2_with fail
      go_roundw
      case rel => exact ⟨k + 1, v2, rfl, by omega, by go_num, by rw [HT.out]; exact hw2, fun ex' => (hkr ex').trans (hk2 ex'), hb.trans hb2, hbs2⟩
      case measure => simp [intOf]; omega
    · obtain rfl : k = n := by omega
      go_wp2_with fail
      go_ret
      refine ⟨_, rfl, ?_, fun ex' => (hk1 ex').trans (hkr ex'), hb, hbs⟩
      rw [HPo.out, ← List.take_of_length_le (l := l) (show l.length ≤ k by rw [← HLn.out]; exact Nat.le_refl _)]
      exact hw

end Go.Proofs.YthhdleppkggepaaGreat

/-
  The bytes that the reference of package claim writes: Core.
-/
namespace Go.Proofs.YthhdleppkggepaaGreat
open Go.RowKit Go.Deep
set_option maxRecDepth 100000

set_option maxHeartbeats 4000000 in
theorem rcore_ok (w : World) (base : Nat) (v : Value) (bs : List Nat) (ex : List Nat) (N : Nat) (A1 : Option Addr) (n1 c1 : Nat) (A2 : Option Addr) (n2 c2 : Nat) (l1 l2 : List (List (Rat × List Int))) (hs : OwnL byE w base [] v bs) (hbase : base ≤ w.heap.size) (hx : RL poE w (own v ++ ex) A1 n1 c1 l1) (hy : RL poE w (own v ++ ex) A2 n2 c2 l2) (hm1 : ∀ p ∈ l1, GP p) (hm2 : ∀ p ∈ l2, GP p) (hN : N < 4294967296) (hn1 : n1 ≤ 1000000000) (hn2 : n2 ≤ 1000000000) (hl : bs.length + (coreB N l1 l2).length ≤ 10000000000) :
    Calls Tryz.prog 59 #[v, .agg #[.int .i64 N, .slice A1 n1 c1, .slice A2 n2 c2]] w (RetAp w base v (bs ++ coreB N l1 l2)) := by
  have HS := Lib.hid hs
  have HX := Lib.hid hx
  have HY := Lib.hid hy
  have HM1 := Lib.hid hm1
  have HM2 := Lib.hid hm2
  have HL := Lib.hid (show bs.length + (numB N).length + (polsB l1).length + (polsB l2).length ≤ 10000000000 by unfold coreB at hl; rw [List.length_append, List.length_append] at hl; omega)
  have HFar := Lib.hid (own_far hs (Nat.le_refl _))
  clear hs hx hy hm1 hm2 hl
  go_enter Tryz.func59, Tryz.ntmps59
  go_wp2_with fail
  refine wp_abs (fun W1 => Below w.heap.size w W1 ∧ w.heap.size < W1.heap.size ∧ W1.cell? ⟨w.heap.size, 0, none⟩ = some (.int .i64 N) ∧ W1.cell? ⟨w.heap.size, 1, none⟩ = some (.slice A1 n1 c1) ∧ W1.cell? ⟨w.heap.size, 2, none⟩ = some (.slice A2 n2 c2))
    ⟨(by repeat (first | (with_reducible exact Below.refl _ _) | (with_reducible assumption) | refine Below.setCell ?_ (by first | (simp; done) | (simp; omega) | omega) _ | refine Below.more ?_ (by first | (simp; done) | (simp; omega) | omega) _ _ | refine Below.alloc ?_ (by first | (simp; done) | (simp; omega) | omega) _ | refine Below.drew ?_ | refine Below.drewN ?_ _)), by simp, by simp [go_sem, ↓IntWalk.iteOmega], by simp [go_sem, ↓IntWalk.iteOmega], by simp [go_sem, ↓IntWalk.iteOmega]⟩ ?_
  rintro W1 ⟨hB1, hS1, b0, b1, b2⟩
  go_region_held3 (fun w' => w'.cell? ⟨w.heap.size, 0, none⟩ = some (.int .i64 N) ∧ w'.cell? ⟨w.heap.size, 0 + 1, none⟩ = some (.slice A1 n1 c1) ∧ w'.cell? ⟨w.heap.size, 0 + 2, none⟩ = some (.slice A2 n2 c2))
    ((repeat' apply And.intro) <;> first | (simp [*, go_sem, ↓IntWalk.iteOmega]; done) | (refine got_of ?_; simp [*, go_sem, ↓IntWalk.iteOmega]; done))
    (first | (go_at_call 109; refine (rnumber_ok _ base v bs N (HS.out.keep (by repeat (first | (with_reducible exact Below.refl _ _) | (with_reducible assumption) | refine Below.setCell ?_ (by first | (simp; done) | (simp; omega) | omega) _ | refine Below.more ?_ (by first | (simp; done) | (simp; omega) | omega) _ _ | refine Below.alloc ?_ (by first | (simp; done) | (simp; omega) | omega) _ | refine Below.drew ?_ | refine Below.drewN ?_ _))) (by first | (simp; done) | (simp; omega) | omega) (by omega) (by have := HL.out; omega)).mono ?_; rintro e w1 ⟨v1, rfl, hw1, hk1, hb1, hbs1⟩; have f1 := fun o => (hk1 []).cell (b := w.heap.size) (by first | (simp; done) | (simp; omega) | omega) HFar.out o; have g1 := (hk1 []).out w.heap.size (by first | (simp; done) | (simp; omega) | omega) HFar.out; have z1 : w.heap.size < w1.heap.size := Nat.lt_of_lt_of_le (by first | (simp; done) | (simp; omega) | omega) (hk1 []).size) | (go_at_call_of 108 A1; refine (rpolys_ok _ base v1 (bs ++ numB N) ex A1 n1 c1 l1 (hw1.keep (by repeat (first | (with_reducible exact Below.refl _ _) | (with_reducible assumption) | refine Below.setCell ?_ (by first | (simp; done) | (simp; omega) | omega) _ | refine Below.more ?_ (by first | (simp; done) | (simp; omega) | omega) _ _ | refine Below.alloc ?_ (by first | (simp; done) | (simp; omega) | omega) _ | refine Below.drew ?_ | refine Below.drewN ?_ _))) (by omega) (HX.out.mono (((Kr.of_below (by repeat (first | (with_reducible exact Below.refl _ _) | (with_reducible assumption) | refine Below.setCell ?_ (by first | (simp; done) | (simp; omega) | omega) _ | refine Below.more ?_ (by first | (simp; done) | (simp; omega) | omega) _ _ | refine Below.alloc ?_ (by first | (simp; done) | (simp; omega) | omega) _ | refine Below.drew ?_ | refine Below.drewN ?_ _)) _).trans (hk1 ex)).trans (Kr.of_below (by repeat (first | (with_reducible exact Below.refl _ _) | (with_reducible assumption) | refine Below.setCell ?_ (by first | (simp; done) | (simp; omega) | omega) _ | refine Below.more ?_ (by first | (simp; done) | (simp; omega) | omega) _ _ | refine Below.alloc ?_ (by first | (simp; done) | (simp; omega) | omega) _ | refine Below.drew ?_ | refine Below.drewN ?_ _)) _))) HM1.out (by omega) (by have := HL.out; rw [List.length_append]; omega)).mono ?_; rintro e w2 ⟨v2, rfl, hw2, hk2, hb2, hbs2⟩; have f2 := fun o => (hk2 []).cell (b := w.heap.size) (by first | (simp; done) | (simp; omega) | omega) g1 o; have g2 := (hk2 []).out w.heap.size (by first | (simp; done) | (simp; omega) | omega) g1; have z2 : w.heap.size < w2.heap.size := Nat.lt_of_lt_of_le (by first | (simp; done) | (simp; omega) | omega) (hk2 []).size) | (go_at_call_of 108 A2; refine (rpolys_ok _ base v2 (bs ++ numB N ++ polsB l1) ex A2 n2 c2 l2 (hw2.keep (by repeat (first | (with_reducible exact Below.refl _ _) | (with_reducible assumption) | refine Below.setCell ?_ (by first | (simp; done) | (simp; omega) | omega) _ | refine Below.more ?_ (by first | (simp; done) | (simp; omega) | omega) _ _ | refine Below.alloc ?_ (by first | (simp; done) | (simp; omega) | omega) _ | refine Below.drew ?_ | refine Below.drewN ?_ _))) (by omega) (HY.out.mono (((((Kr.of_below (by repeat (first | (with_reducible exact Below.refl _ _) | (with_reducible assumption) | refine Below.setCell ?_ (by first | (simp; done) | (simp; omega) | omega) _ | refine Below.more ?_ (by first | (simp; done) | (simp; omega) | omega) _ _ | refine Below.alloc ?_ (by first | (simp; done) | (simp; omega) | omega) _ | refine Below.drew ?_ | refine Below.drewN ?_ _)) _).trans (hk1 ex)).trans (Kr.of_below (by repeat (first | (with_reducible exact Below.refl _ _) | (with_reducible assumption) | refine Below.setCell ?_ (by first | (simp; done) | (simp; omega) | omega) _ | refine Below.more ?_ (by first | (simp; done) | (simp; omega) | omega) _ _ | refine Below.alloc ?_ (by first | (simp; done) | (simp; omega) | omega) _ | refine Below.drew ?_ | refine Below.drewN ?_ _)) _)).trans (hk2 ex)).trans (Kr.of_below (by repeat (first | (with_reducible exact Below.refl _ _) | (with_reducible assumption) | refine Below.setCell ?_ (by first | (simp; done) | (simp; omega) | omega) _ | refine Below.more ?_ (by first | (simp; done) | (simp; omega) | omega) _ _ | refine Below.alloc ?_ (by first | (simp; done) | (simp; omega) | omega) _ | refine Below.drew ?_ | refine Below.drewN ?_ _)) _))) HM2.out (by omega) (by have := HL.out; rw [List.length_append, List.length_append]; omega)).mono ?_; rintro e w3 ⟨v3, rfl, hw3, hk3, hb3, hbs3⟩; have f3 := fun o => (hk3 []).cell (b := w.heap.size) (by first | (simp; done) | (simp; omega) | omega) g2 o))
  all_goals (rename_i hHeldZ; clear hHeldZ)
  all_goals
    go_wp2_with fail
    go_ret
    refine ⟨_, rfl, by unfold coreB; rw [← List.append_assoc, ← List.append_assoc]; exact hw3, fun ex' => (((((Kr.of_below (by repeat (first | (with_reducible exact Below.refl _ _) | (with_reducible assumption) | refine Below.setCell ?_ (by first | (simp; done) | (simp; omega) | omega) _ | refine Below.more ?_ (by first | (simp; done) | (simp; omega) | omega) _ _ | refine Below.alloc ?_ (by first | (simp; done) | (simp; omega) | omega) _ | refine Below.drew ?_ | refine Below.drewN ?_ _)) _).trans (hk1 ex')).trans (Kr.of_below (by repeat (first | (with_reducible exact Below.refl _ _) | (with_reducible assumption) | refine Below.setCell ?_ (by first | (simp; done) | (simp; omega) | omega) _ | refine Below.more ?_ (by first | (simp; done) | (simp; omega) | omega) _ _ | refine Below.alloc ?_ (by first | (simp; done) | (simp; omega) | omega) _ | refine Below.drew ?_ | refine Below.drewN ?_ _)) _)).trans (hk2 ex')).trans (Kr.of_below (by repeat (first | (with_reducible exact Below.refl _ _) | (with_reducible assumption) | refine Below.setCell ?_ (by first | (simp; done) | (simp; omega) | omega) _ | refine Below.more ?_ (by first | (simp; done) | (simp; omega) | omega) _ _ | refine Below.alloc ?_ (by first | (simp; done) | (simp; omega) | omega) _ | refine Below.drew ?_ | refine Below.drewN ?_ _)) _)).trans (hk3 ex'), ?_, hbs3⟩
    exact ((show Below w.heap.size w _ from (by repeat (first | (with_reducible exact Below.refl _ _) | (with_reducible assumption) | refine Below.setCell ?_ (by first | (simp; done) | (simp; omega) | omega) _ | refine Below.more ?_ (by first | (simp; done) | (simp; omega) | omega) _ _ | refine Below.alloc ?_ (by first | (simp; done) | (simp; omega) | omega) _ | refine Below.drew ?_ | refine Below.drewN ?_ _))).mono hbase).trans ((hb1.trans hb2).trans hb3)

end Go.Proofs.YthhdleppkggepaaGreat

/-
  The walk of package claim: space.fit, Valid$1.
-/
namespace Go.Proofs.YthhdleppkggepaaGreat
open Go.RowKit Go.Deep
set_option maxRecDepth 100000

theorem shr_run (u n : Nat) (hn : n ≤ 4) (w : World) : (binOp .shr 5 (.int .u8 u) (.int .i64 n)).run Tryz.prog w = .ok (.int .u8 ((u : Int) / 2 ^ n)) w := by
  obtain rfl | rfl | rfl | rfl | rfl : n = 0 ∨ n = 1 ∨ n = 2 ∨ n = 3 ∨ n = 4 := by omega
  all_goals simp [binOp, go_sem, ↓IntWalk.iteOmega]

set_option maxHeartbeats 16000000 in
theorem fit_ok (w : World) (ex : List Nat) (A : Option Addr) (m c : Nat) (p : List (Rat × List Int)) (n : Nat) (hx : RP w ex A m c p) (hg : GP p) (hn : n ≤ 4) :
    Calls Tryz.prog 103 #[.agg #[.int .i64 n], .slice A m c, .int .i64 12] w (RetV w (.bool (withinB p n))) := by
  have hm : m ≤ 1000000000 := by rw [hx.len]; have := hg.len; omega
  have HW : Hid (withinB p n = (validB p && decide (pdeg p ≤ 12) && decide (usesN p < 2 ^ n))) := rfl
  have HX := Lib.hid hx
  have HG := Lib.hid hg
  clear hx hg
  obtain ⟨v, hv⟩ : ∃ v, validB p = v := ⟨_, rfl⟩
  have HV := Lib.hid hv
  rw [hv] at HW
  clear hv
  have hval : ∀ w', RP w' ex A m c p → Calls Tryz.prog 88 #[.slice A m c] w' (RetV w' (.bool v)) := fun w' h => by
    have := pvalid_ok w' ex A m c p h HG.out.exps HG.out.ty hm
    rwa [HV.out] at this
  cases v
  · have HE : Hid (withinB p n = false) := Lib.hid (by rw [HW.out]; rfl)
    go_enter Tryz.func103, Tryz.ntmps103
    go_wp2_with fail
    first | go_region_with (first | (go_at_call 88; refine (hval _ (HX.out.mono (Kr.of_below (by repeat (first | (with_reducible exact Below.refl _ _) | (with_reducible assumption) | refine Below.setCell ?_ (by first | (simp; done) | (simp; omega) | omega) _ | refine Below.more ?_ (by first | (simp; done) | (simp; omega) | omega) _ _ | refine Below.alloc ?_ (by first | (simp; done) | (simp; omega) | omega) _ | refine Below.drew ?_ | refine Below.drewN ?_ _)) _))).mono ?_; rintro e w1 ⟨X, D, rfl, rfl⟩)) | fail
    all_goals
      go_wp2_with fail
      go_ret
      rw [HE.out]
      exact RetV.mk rfl (by repeat (first | (with_reducible exact Below.refl _ _) | (with_reducible assumption) | refine Below.setCell ?_ (by first | (simp; done) | (simp; omega) | omega) _ | refine Below.more ?_ (by first | (simp; done) | (simp; omega) | omega) _ _ | refine Below.alloc ?_ (by first | (simp; done) | (simp; omega) | omega) _ | refine Below.drew ?_ | refine Below.drewN ?_ _))
  · obtain ⟨d, hd⟩ : ∃ d, pdeg p = d := ⟨_, rfl⟩
    have HD := Lib.hid hd
    rw [hd] at HW
    clear hd
    have hu8 : usesN p < 256 := usesN_lt (suppN_lt8 HX.out.len8)
    have HE : Hid (withinB p n = (((usesN p : Int) / (2 ^ n) == 0) && decide (d ≤ 12))) := Lib.hid (by rw [HW.out, shr_zero]; simp [Bool.and_comm])
    obtain ⟨u, hu⟩ : ∃ u, usesN p = u := ⟨_, rfl⟩
    have HU := Lib.hid hu
    rw [hu] at HE hu8
    clear hu
    obtain ⟨s, hs⟩ : ∃ s : Bool, ((u : Int) / (2 ^ n) == 0) = s := ⟨_, rfl⟩
    have HS := Lib.hid hs
    rw [hs] at HE
    have huv : ∀ w', RP w' ex A m c p → Calls Tryz.prog 89 #[.slice A m c] w' (RetV w' (.int .u8 u)) := fun w' h => by
      have := puses_ok w' ex A m c p h HG.out.exps hm
      rwa [HU.out] at this
    have hdv : ∀ w', RP w' ex A m c p → Calls Tryz.prog 46 #[.slice A m c] w' (RetV w' (.int .i64 d)) := fun w' h => by
      have := pdegree_ok w' ex A m c p h HG.out.exps hm
      rwa [HD.out] at this
    cases s
    · have HZ := Lib.hid hs
      clear hs
      have hE2 : (false && decide (d ≤ 12)) = false := rfl
      rw [hE2] at HE
      go_enter Tryz.func103, Tryz.ntmps103
      go_wp2_with fail
      have hz1 := HZ.out
      first | go_region_with (first | (go_at_call 88; refine (hval _ (HX.out.mono (Kr.of_below (by repeat (first | (with_reducible exact Below.refl _ _) | (with_reducible assumption) | refine Below.setCell ?_ (by first | (simp; done) | (simp; omega) | omega) _ | refine Below.more ?_ (by first | (simp; done) | (simp; omega) | omega) _ _ | refine Below.alloc ?_ (by first | (simp; done) | (simp; omega) | omega) _ | refine Below.drew ?_ | refine Below.drewN ?_ _)) _))).mono ?_; rintro e w1 ⟨X, D, rfl, rfl⟩) | (go_at_call 89; refine (huv _ (HX.out.mono (Kr.of_below (by repeat (first | (with_reducible exact Below.refl _ _) | (with_reducible assumption) | refine Below.setCell ?_ (by first | (simp; done) | (simp; omega) | omega) _ | refine Below.more ?_ (by first | (simp; done) | (simp; omega) | omega) _ _ | refine Below.alloc ?_ (by first | (simp; done) | (simp; omega) | omega) _ | refine Below.drew ?_ | refine Below.drewN ?_ _)) _))).mono ?_; rintro e w1 ⟨X2, D2, rfl, rfl⟩) | (go_at_call 46; refine (hdv _ (HX.out.mono (Kr.of_below (by repeat (first | (with_reducible exact Below.refl _ _) | (with_reducible assumption) | refine Below.setCell ?_ (by first | (simp; done) | (simp; omega) | omega) _ | refine Below.more ?_ (by first | (simp; done) | (simp; omega) | omega) _ _ | refine Below.alloc ?_ (by first | (simp; done) | (simp; omega) | omega) _ | refine Below.drew ?_ | refine Below.drewN ?_ _)) _))).mono ?_; rintro e w1 ⟨X3, D3, rfl, rfl⟩)) | fail
      all_goals
        go_wp2_with fail
        go_ret
        rw [HE.out]
        exact RetV.mk (by simp [HZ.out, Act.put, go_sem, ↓IntWalk.iteOmega]) (by repeat (first | (with_reducible exact Below.refl _ _) | (with_reducible assumption) | refine Below.setCell ?_ (by first | (simp; done) | (simp; omega) | omega) _ | refine Below.more ?_ (by first | (simp; done) | (simp; omega) | omega) _ _ | refine Below.alloc ?_ (by first | (simp; done) | (simp; omega) | omega) _ | refine Below.drew ?_ | refine Below.drewN ?_ _))
    · have HZ := Lib.hid hs
      clear hs
      by_cases h12 : d ≤ 12
      · have hE2 : (true && decide (d ≤ 12)) = true := by simp [h12]
        rw [hE2] at HE
        go_enter Tryz.func103, Tryz.ntmps103
        go_wp2_with fail
        have hz1 := HZ.out
        have hz2 : decide (d ≤ 12) = true := by simpa using h12
        first | go_region_with (first | (go_at_call 88; refine (hval _ (HX.out.mono (Kr.of_below (by repeat (first | (with_reducible exact Below.refl _ _) | (with_reducible assumption) | refine Below.setCell ?_ (by first | (simp; done) | (simp; omega) | omega) _ | refine Below.more ?_ (by first | (simp; done) | (simp; omega) | omega) _ _ | refine Below.alloc ?_ (by first | (simp; done) | (simp; omega) | omega) _ | refine Below.drew ?_ | refine Below.drewN ?_ _)) _))).mono ?_; rintro e w1 ⟨X, D, rfl, rfl⟩) | (go_at_call 89; refine (huv _ (HX.out.mono (Kr.of_below (by repeat (first | (with_reducible exact Below.refl _ _) | (with_reducible assumption) | refine Below.setCell ?_ (by first | (simp; done) | (simp; omega) | omega) _ | refine Below.more ?_ (by first | (simp; done) | (simp; omega) | omega) _ _ | refine Below.alloc ?_ (by first | (simp; done) | (simp; omega) | omega) _ | refine Below.drew ?_ | refine Below.drewN ?_ _)) _))).mono ?_; rintro e w1 ⟨X2, D2, rfl, rfl⟩) | (go_at_call 46; refine (hdv _ (HX.out.mono (Kr.of_below (by repeat (first | (with_reducible exact Below.refl _ _) | (with_reducible assumption) | refine Below.setCell ?_ (by first | (simp; done) | (simp; omega) | omega) _ | refine Below.more ?_ (by first | (simp; done) | (simp; omega) | omega) _ _ | refine Below.alloc ?_ (by first | (simp; done) | (simp; omega) | omega) _ | refine Below.drew ?_ | refine Below.drewN ?_ _)) _))).mono ?_; rintro e w1 ⟨X3, D3, rfl, rfl⟩)) | fail
        all_goals
          go_wp2_with fail
          go_ret
          rw [HE.out]
          exact RetV.mk (by simp [HZ.out, h12, Act.put, go_sem, ↓IntWalk.iteOmega]) (by repeat (first | (with_reducible exact Below.refl _ _) | (with_reducible assumption) | refine Below.setCell ?_ (by first | (simp; done) | (simp; omega) | omega) _ | refine Below.more ?_ (by first | (simp; done) | (simp; omega) | omega) _ _ | refine Below.alloc ?_ (by first | (simp; done) | (simp; omega) | omega) _ | refine Below.drew ?_ | refine Below.drewN ?_ _))
      · have hE2 : (true && decide (d ≤ 12)) = false := by simp [h12]
        rw [hE2] at HE
        go_enter Tryz.func103, Tryz.ntmps103
        go_wp2_with fail
        have hz1 := HZ.out
        have hz2 : decide (d ≤ 12) = false := by simpa using h12
        first | go_region_with (first | (go_at_call 88; refine (hval _ (HX.out.mono (Kr.of_below (by repeat (first | (with_reducible exact Below.refl _ _) | (with_reducible assumption) | refine Below.setCell ?_ (by first | (simp; done) | (simp; omega) | omega) _ | refine Below.more ?_ (by first | (simp; done) | (simp; omega) | omega) _ _ | refine Below.alloc ?_ (by first | (simp; done) | (simp; omega) | omega) _ | refine Below.drew ?_ | refine Below.drewN ?_ _)) _))).mono ?_; rintro e w1 ⟨X, D, rfl, rfl⟩) | (go_at_call 89; refine (huv _ (HX.out.mono (Kr.of_below (by repeat (first | (with_reducible exact Below.refl _ _) | (with_reducible assumption) | refine Below.setCell ?_ (by first | (simp; done) | (simp; omega) | omega) _ | refine Below.more ?_ (by first | (simp; done) | (simp; omega) | omega) _ _ | refine Below.alloc ?_ (by first | (simp; done) | (simp; omega) | omega) _ | refine Below.drew ?_ | refine Below.drewN ?_ _)) _))).mono ?_; rintro e w1 ⟨X2, D2, rfl, rfl⟩) | (go_at_call 46; refine (hdv _ (HX.out.mono (Kr.of_below (by repeat (first | (with_reducible exact Below.refl _ _) | (with_reducible assumption) | refine Below.setCell ?_ (by first | (simp; done) | (simp; omega) | omega) _ | refine Below.more ?_ (by first | (simp; done) | (simp; omega) | omega) _ _ | refine Below.alloc ?_ (by first | (simp; done) | (simp; omega) | omega) _ | refine Below.drew ?_ | refine Below.drewN ?_ _)) _))).mono ?_; rintro e w1 ⟨X3, D3, rfl, rfl⟩)) | fail
        all_goals
          go_wp2_with fail
          go_ret
          rw [HE.out]
          exact RetV.mk (by simp [HZ.out, h12, Act.put, go_sem, ↓IntWalk.iteOmega]) (by repeat (first | (with_reducible exact Below.refl _ _) | (with_reducible assumption) | refine Below.setCell ?_ (by first | (simp; done) | (simp; omega) | omega) _ | refine Below.more ?_ (by first | (simp; done) | (simp; omega) | omega) _ _ | refine Below.alloc ?_ (by first | (simp; done) | (simp; omega) | omega) _ | refine Below.drew ?_ | refine Below.drewN ?_ _))

end Go.Proofs.YthhdleppkggepaaGreat
