/-
  The walk of the reference's normal multiple, at polynomials whose coefficients are whole numbers.
-/
import Derived.Test.YthhdleppkggepaaGreatSb17
import Derived.Test.YthhdleppkggepaaGreatSb30
import Derived.Test.YthhdleppkggepaaGreatSm03

set_option linter.unusedSimpArgs false
set_option linter.unusedVariables false
set_option linter.unusedSectionVars false

namespace Go.Proofs.YthhdleppkggepaaGreat
open Go.RowKit Go.Deep
set_option maxRecDepth 100000

theorem gcd11 : (Int.gcd 1 ((1 : Nat) : Int) : Int) = 1 := by decide

set_option maxHeartbeats 8000000 in
theorem r8normal_ok (w : World) (ex : List Nat) (A : Option Addr) (n c : Nat) (p : List (Rat × List Int)) (hx : RP w ex A n c p) (hp : PExps p) (hty : PTy p) (hz : ∀ t ∈ p, t.1 ≠ 0) (hip : IP p)
    (hn : n ≤ 1000000000) (hex : ∀ b ∈ ex, b < w.heap.size) :
    Calls Tryz.prog 100 #[.slice A n c] w (RetP w ex (normP p)) := by
  have HL := Lib.hid hx.len
  have hcap := hx.cap
  have HP := Lib.hid hp
  have HT := Lib.hid hty
  have HNB := Lib.hid (numG_bound hty hz)
  have HNZ := Lib.hid hz
  have HIP := Lib.hid hip
  have HM0 := Lib.hid (mulOk0 hp hx.len8)
  clear hp hty hz hip
  by_cases h0 : n = 0
  · subst h0
    have HE : Hid (normP p = []) := Lib.hid (by
      have : p = [] := List.eq_nil_of_length_eq_zero HL.out.symm
      subst this; rfl)
    go_enter Tryz.func100, Tryz.ntmps100
    go_wp2_with fail
    go_ret
    rw [HE.out]
    exact RetP.mk rfl (by repeat first | with_reducible exact .refl .. | with_reducible assumption | refine .s ?_ ?_ | refine .m ?_ ?_ | refine .l ?_ ?_ | refine .d ?_ | refine .e ?_ | (simp <;> omega) | omega) (RP.nil _ _ _ _)
  · have hn0 : ((n : Int) == 0) = false := by simpa using h0
    go_enter Tryz.func100, Tryz.ntmps100
    go_wp2_with fail
    refine (r1of_ok _ ex 1 (by decide) (by decide) hex).mono ?_; rintro e w1 ⟨s0, A0, n0, c0, X0, D0, rfl, rfl, hi0⟩
    go_wp2_with fail
    refine (r1of_ok _ ex 0 (by decide) (by decide) (fun b hb => by have := hex b hb; simp; omega)).mono ?_; rintro e w1 ⟨sz, Az, nz, cz, X1, D1, rfl, rfl, hi1⟩
    go_wp2_with fail
    obtain ⟨g, hg⟩ : ∃ g, g = w.heap.size + X0.size + X1.size := ⟨_, rfl⟩
    refine wp_abs (fun W0 => Below w.heap.size w W0 ∧ g + 1 < W0.heap.size ∧ W0.cell? ⟨g, 0, none⟩ = some (.bool s0) ∧ W0.cell? ⟨g, 1, none⟩ = some (.slice A0 n0 c0) ∧ W0.cell? ⟨g + 1, 0, none⟩ = some (.bool sz) ∧ W0.cell? ⟨g + 1, 1, none⟩ = some (.slice Az nz cz) ∧
        W0.frozen? ⟨g, 0, none⟩ = false ∧ W0.frozen? ⟨g, 1, none⟩ = false ∧ W0.frozen? ⟨g + 1, 0, none⟩ = false ∧ W0.frozen? ⟨g + 1, 1, none⟩ = false ∧ RI W0 ex s0 A0 n0 c0 1 ∧ RI W0 ex sz Az nz cz 0)
      ⟨(by repeat first | with_reducible exact .refl .. | with_reducible assumption | refine .s ?_ ?_ | refine .m ?_ ?_ | refine .l ?_ ?_ | refine .d ?_ | refine .e ?_ | (simp <;> omega) | omega), by simp; omega, by simp [hg, go_sem, ↓IntWalk.iteOmega], by simp [hg, go_sem, ↓IntWalk.iteOmega], by simp [hg, go_sem, ↓IntWalk.iteOmega], by simp [hg, go_sem, ↓IntWalk.iteOmega], by simp [hg, go_sem, ↓IntWalk.iteOmega], by simp [hg, go_sem, ↓IntWalk.iteOmega], by simp [hg, go_sem, ↓IntWalk.iteOmega], by simp [hg, go_sem, ↓IntWalk.iteOmega], hi0.keepW (by repeat (first | (with_reducible exact Kw.refl _) | (with_reducible assumption) | refine Kw.setCell ?_ (by intro x; simp [*, go_sem, ↓IntWalk.iteOmega]) | refine Kw.more ?_ _ _ | refine Kw.alloc ?_ _ | refine Kw.drew ?_ | refine Kw.drewN ?_ _)), hi1.keepW (by repeat (first | (with_reducible exact Kw.refl _) | (with_reducible assumption) | refine Kw.setCell ?_ (by intro x; simp [*, go_sem, ↓IntWalk.iteOmega]) | refine Kw.more ?_ _ _ | refine Kw.alloc ?_ _ | refine Kw.drew ?_ | refine Kw.drewN ?_ _))⟩ ?_
    rw [← hg]
    rintro W0 ⟨hb0, hgs, b0, b1, b2, b3, f0, f1, f2, f3, hi0', hi1'⟩
    have hgw : w.heap.size ≤ g := by omega
    clear hi0 hi1 hg
    go_loopw [5] (fun i wr => ∃ (k : Nat) (s4 : Bool) (A4 : Option Addr) (n4 c4 : Nat), k ≤ n ∧ i = .int .i64 k ∧ Below w.heap.size w wr ∧ g + 1 < wr.heap.size ∧ wr.cell? ⟨g, 0, none⟩ = some (.bool s4) ∧ wr.cell? ⟨g, 1, none⟩ = some (.slice A4 n4 c4) ∧ wr.cell? ⟨g + 1, 0, none⟩ = some (.bool sz) ∧ wr.cell? ⟨g + 1, 1, none⟩ = some (.slice Az nz cz) ∧
        wr.frozen? ⟨g, 0, none⟩ = false ∧ wr.frozen? ⟨g, 1, none⟩ = false ∧ wr.frozen? ⟨g + 1, 0, none⟩ = false ∧ wr.frozen? ⟨g + 1, 1, none⟩ = false ∧ RI wr ex s4 A4 n4 c4 1 ∧ RI wr ex sz Az nz cz 0) (fun i _ => n - (intOf i).toNat)
    case atStart => exact ⟨0, s0, A0, n0, c0, Nat.zero_le _, rfl, hb0, hgs, b0, b1, b2, b3, f0, f1, f2, f3, hi0', hi1'⟩
    case round =>
      clear b0 b1 b2 b3 f0 f1 f2 f3 hi0' hi1' hb0 hgs
      obtain ⟨k, s4, A4, n4, c4, hk, rfl, hb, hgs, b0, b1, b2, b3, f0, f1, f2, f3, hi4, hi3⟩ := hrel
      have hsz := hb.size
      have hN4 := hi4.n (by decide)
      by_cases hlt : k < n
      · have hxw := hx.mono (Kr.of_below hb ex)
        obtain ⟨b, o, rfl, hbx, hbl, ht⟩ := hxw.at_ (by omega)
        have hkp : k < p.length := by have := HL.out; omega
        obtain ⟨s1, A1, n1, c1, s2, A2, n2, c2, e0, e1, e2, e3, e4, e5, e6, e7, h0, h1, h2, h3, h4, h5, h6, h7, h8, h9, h10, h11, hq, hm⟩ := ht k hkp
        have hdd := HIP.out _ (List.getElem_mem hkp)
        have hqd := hq.den
        rw [hdd] at hqd
        have hN2 := hqd.n (by decide)
        have hkn : (k : Int) < (n : Int) := by omega
        have hbb : b ≠ g := by rintro rfl; have := hx.at_ (by omega); obtain ⟨b', o', e', _, hl', _⟩ := this; cases e'; omega
        clear hq hm ht hdd h4 h5 h6 h7 h8 h9 h10 h11
        have h2' : wr.cell? ⟨b, o + k * 12 + 2, none⟩ = some (.bool s2) := h2
        have h3' : wr.cell? ⟨b, o + k * 12 + 2 + 1, none⟩ = some (.slice A2 n2 c2) := h3
        clear h3
        go_wp2_with fail
        go_cut [6, 7, 8] (fun v6 v7 v8 w' => ∃ b6 sq Aq nq cq, v6 = .pointer (some ⟨b6, 0, none⟩) ∧ v8 = .int .i64 0 ∧ Below wr.heap.size wr w' ∧ wr.heap.size ≤ b6 ∧ b6 < w'.heap.size ∧ w'.cell? ⟨b6, 0, none⟩ = some (.bool sq) ∧ w'.cell? ⟨b6, 1, none⟩ = some (.slice Aq nq cq) ∧ RI w' ex sq Aq nq cq 1)
        case first =>
          go_region_held3 (fun w' => w'.cell? ⟨g, 0, none⟩ = some (.bool s4) ∧ w'.cell? ⟨g, 0 + 1, none⟩ = some (.slice A4 n4 c4) ∧ w'.cell? ⟨b, o + k * 12 + 2, none⟩ = some (.bool s2) ∧ w'.cell? ⟨b, o + k * 12 + 2 + 1, none⟩ = some (.slice A2 n2 c2))
            ((repeat' apply And.intro) <;> first | (simp [*, go_sem, ↓IntWalk.iteOmega]; done) | (refine got_of ?_; simp [*, go_sem, ↓IntWalk.iteOmega]; done))
            (first | (go_at_call 117; refine (r1gcd_ok _ ex s4 A4 n4 c4 1 s2 A2 n2 c2 ((1 : Nat) : Int) (hi4.mono (Kr.of_below (by repeat first | with_reducible exact .refl .. | with_reducible assumption | refine .s ?_ ?_ | refine .m ?_ ?_ | refine .l ?_ ?_ | refine .d ?_ | refine .e ?_ | (simp <;> omega) | omega) _)) (hqd.mono (Kr.of_below (by repeat first | with_reducible exact .refl .. | with_reducible assumption | refine .s ?_ ?_ | refine .m ?_ ?_ | refine .l ?_ ?_ | refine .d ?_ | refine .e ?_ | (simp <;> omega) | omega) _)) (Wee.of (by decide)) (by omega) (by omega) (fun b hb => by have := hex b hb; simp; omega)).mono ?_; rw [gcd11]; rintro e w' ⟨s6, A6, n6, c6, X6, D6, rfl, rfl, h6⟩) | (go_at_call 149; refine (r1divmod_ok _ ex s2 A2 n2 c2 ((1 : Nat) : Int) s6 A6 n6 c6 1 (hqd.mono (Kr.of_below (by repeat first | with_reducible exact .refl .. | with_reducible assumption | refine .s ?_ ?_ | refine .m ?_ ?_ | refine .l ?_ ?_ | refine .d ?_ | refine .e ?_ | (simp <;> omega) | omega) _)) (h6.mono (Kr.of_below (by repeat first | with_reducible exact .refl .. | with_reducible assumption | refine .s ?_ ?_ | refine .m ?_ ?_ | refine .l ?_ ?_ | refine .d ?_ | refine .e ?_ | (simp <;> omega) | omega) _)) (by decide) (Wee.of (by decide)) (by omega) (by have := h6.n (by decide); omega) (fun b hb => by have := hex b hb; simp; omega)).mono ?_; rintro e w' ⟨s7, A7, n7, c7, s8, A8, n8, c8, X7, D7, rfl, rfl, h7, h8⟩))
          all_goals (rename_i hHeldZ; clear hHeldZ)
          all_goals
            go_wp2_with fail
            go_meet
            case rel => exact ⟨_, s7, A7, n7, c7, rfl, rfl, (by repeat first | with_reducible exact .refl .. | with_reducible assumption | refine .s ?_ ?_ | refine .m ?_ ?_ | refine .l ?_ ?_ | refine .d ?_ | refine .e ?_ | (simp <;> omega) | omega), (by first | (simp; done) | (simp; omega) | omega), (by first | (simp; done) | (simp; omega) | omega), by simp [go_sem, ↓IntWalk.iteOmega], by simp [go_sem, ↓IntWalk.iteOmega], h7.keepW (by repeat (first | (with_reducible exact Kw.refl _) | (with_reducible assumption) | refine Kw.setCell ?_ (by intro x; simp [*, go_sem, ↓IntWalk.iteOmega]) | refine Kw.more ?_ _ _ | refine Kw.alloc ?_ _ | refine Kw.drew ?_ | refine Kw.drewN ?_ _))⟩
        case rest =>
          obtain ⟨b6, sq, Aq, nq, cq, rfl, rfl, hB1, hb61, hb62, j0, j1, hiq⟩ := hcut
          have hsz1 := hB1.size
          have k0 := (Below.at0 hB1 (show g < wr.heap.size by omega) 0).trans b0
          have k1 := (Below.at0 hB1 (show g < wr.heap.size by omega) 1).trans b1
          have k2 := (Below.at0 hB1 (show g + 1 < wr.heap.size by omega) 0).trans b2
          have k3 := (Below.at0 hB1 (show g + 1 < wr.heap.size by omega) 1).trans b3
          have l0 := (hB1.frozen (p := ⟨g, 0, none⟩) (show g < wr.heap.size by omega)).trans f0
          have l1 := (hB1.frozen (p := ⟨g, 1, none⟩) (show g < wr.heap.size by omega)).trans f1
          have l2 := (hB1.frozen (p := ⟨g + 1, 0, none⟩) (show g + 1 < wr.heap.size by omega)).trans f2
          have l3 := (hB1.frozen (p := ⟨g + 1, 1, none⟩) (show g + 1 < wr.heap.size by omega)).trans f3
          have hi3' := hi3.mono (Kr.of_below hB1 _)
          have hi4' := hi4.mono (Kr.of_below hB1 _)
          have hbw := hb.trans (hB1.mono hsz)
          have hgg : g < wc.heap.size := by omega
          have hNq := hiq.n (by decide)
          clear b0 b1 b2 b3 f0 f1 f2 f3 hi3 hi4 hqd hb h2' h3' h0 h1
          go_wp2_with fail
          refine (r1imul_ok _ ex s4 A4 n4 c4 1 sq Aq nq cq 1 (hi4'.keepW (by repeat (first | (with_reducible exact Kw.refl _) | (with_reducible assumption) | refine Kw.setCell ?_ (by intro x; simp [*, go_sem, ↓IntWalk.iteOmega]) | refine Kw.more ?_ _ _ | refine Kw.alloc ?_ _ | refine Kw.drew ?_ | refine Kw.drewN ?_ _))) (hiq.keepW (by repeat (first | (with_reducible exact Kw.refl _) | (with_reducible assumption) | refine Kw.setCell ?_ (by intro x; simp [*, go_sem, ↓IntWalk.iteOmega]) | refine Kw.more ?_ _ _ | refine Kw.alloc ?_ _ | refine Kw.drew ?_ | refine Kw.drewN ?_ _))) (by omega) (by omega) (fun b hb => by have := hex b hb; simp; omega)).mono ?_; rintro e w1 ⟨s9, A9, n9, c9, X9, D9, rfl, rfl, h9⟩
          go_wp2_with fail
          go_roundw
          case rel => exact ⟨k + 1, s9, A9, n9, c9, by omega, by go_num, hbw.trans (show Below w.heap.size wc _ from (by repeat first | with_reducible exact .refl .. | with_reducible assumption | refine .s ?_ ?_ | refine .m ?_ ?_ | refine .l ?_ ?_ | refine .d ?_ | refine .e ?_ | (simp <;> omega) | omega)), by simp; omega, by simp [*, go_sem, ↓IntWalk.iteOmega], by simp [*, go_sem, ↓IntWalk.iteOmega], by simp [*, go_sem, ↓IntWalk.iteOmega], by simp [*, go_sem, ↓IntWalk.iteOmega], by simp [*, go_sem, ↓IntWalk.iteOmega], by simp [*, go_sem, ↓IntWalk.iteOmega], by simp [*, go_sem, ↓IntWalk.iteOmega], by simp [*, go_sem, ↓IntWalk.iteOmega], h9.keepW (by repeat (first | (with_reducible exact Kw.refl _) | (with_reducible assumption) | refine Kw.setCell ?_ (by intro x; simp [*, go_sem, ↓IntWalk.iteOmega]) | refine Kw.more ?_ _ _ | refine Kw.alloc ?_ _ | refine Kw.drew ?_ | refine Kw.drewN ?_ _)), hi3'.keepW (by repeat (first | (with_reducible exact Kw.refl _) | (with_reducible assumption) | refine Kw.setCell ?_ (by intro x; simp [*, go_sem, ↓IntWalk.iteOmega]) | refine Kw.more ?_ _ _ | refine Kw.alloc ?_ _ | refine Kw.drew ?_ | refine Kw.drewN ?_ _))⟩
          case measure => simp [intOf]; omega
      · obtain rfl : n = k := by omega
        obtain ⟨wo, hwo⟩ : ∃ x, x = wr := ⟨_, rfl⟩
        subst hwo
        go_wp2_with fail
        go_loopw [9] (fun i wr => ∃ (k : Nat) (s3 : Bool) (A3 : Option Addr) (n3 c3 : Nat), k ≤ n ∧ i = .int .i64 k ∧ Below w.heap.size w wr ∧ g + 1 < wr.heap.size ∧ wr.cell? ⟨g, 0, none⟩ = some (.bool s4) ∧ wr.cell? ⟨g, 1, none⟩ = some (.slice A4 n4 c4) ∧ wr.cell? ⟨g + 1, 0, none⟩ = some (.bool s3) ∧ wr.cell? ⟨g + 1, 1, none⟩ = some (.slice A3 n3 c3) ∧
            wr.frozen? ⟨g + 1, 0, none⟩ = false ∧ wr.frozen? ⟨g + 1, 1, none⟩ = false ∧ RI wr ex s4 A4 n4 c4 1 ∧ RI wr ex s3 A3 n3 c3 (numG (p.take k))) (fun i _ => n - (intOf i).toNat)
        case atStart => exact ⟨0, sz, Az, nz, cz, Nat.zero_le _, rfl, hb, hgs, b0, b1, b2, b3, f2, f3, hi4, hi3⟩
        case round =>
          clear b0 b1 b2 b3 f0 f1 f2 f3 hi3 hi4 hb hgs hsz
          obtain ⟨j, s3, A3, n3, c3, hj, rfl, hb, hgs, b0, b1, b2, b3, f2, f3, hi4, hi3⟩ := hrel
          have hsz := hb.size
          have hjl : j ≤ p.length := by rw [← HL.out]; exact hj
          obtain ⟨gp0, gp1, gp2⟩ := HNB.out j hjl
          have hN3 := hi3.n (by omega)
          by_cases hlt : j < n
          · have hxw := hx.mono (Kr.of_below hb ex)
            obtain ⟨b, o, rfl, hbx, hbl, ht⟩ := hxw.at_ (by omega)
            have hkp : j < p.length := by have := HL.out; omega
            obtain ⟨s1, A1, n1, c1, s2, A2, n2, c2, e0, e1, e2, e3, e4, e5, e6, e7, h0, h1, h2, h3, h4, h5, h6, h7, h8, h9, h10, h11, hq, hm⟩ := ht j hkp
            have hdd := HIP.out _ (List.getElem_mem hkp)
            have HND := Lib.hid (numG_succ hkp)
            have hT1 := (HT.out _ (List.getElem_mem hkp)).1
            have hqd := hq.den
            have hqn := hq.num
            rw [hdd] at hqd
            obtain ⟨nn, hnn⟩ : ∃ x, p[j].1.num = x := ⟨_, rfl⟩
            obtain ⟨G, hG⟩ : ∃ x, numG (p.take j) = x := ⟨_, rfl⟩
            rw [hnn] at HND hqn hT1
            rw [hG] at HND hi3 gp0 gp1 gp2
            have hN2 := hqd.n (by decide)
            have hN1 := hqn.n (by omega)
            have hkn : (j : Int) < (n : Int) := by omega
            have hbg : b < w.heap.size := by have := hx.at_ (by omega); obtain ⟨b', o', e', _, hl', _⟩ := this; cases e'; exact hl'
            have hbb : b ≠ g := by omega
            have hbb1 : b ≠ g + 1 := by omega
            clear hq hm ht hdd h4 h5 h6 h7 h8 h9 h10 h11 gp2 hnn hG
            have h2' : wr.cell? ⟨b, o + j * 12 + 2, none⟩ = some (.bool s2) := h2
            have h3' : wr.cell? ⟨b, o + j * 12 + 2 + 1, none⟩ = some (.slice A2 n2 c2) := h3
            clear h3
            go_wp2_with fail
            go_cut [10, 11, 12] (fun v6 v7 v8 w' => ∃ b6 sq Aq nq cq, v6 = .pointer (some ⟨b6, 0, none⟩) ∧ v8 = .int .i64 0 ∧ Below wr.heap.size wr w' ∧ wr.heap.size ≤ b6 ∧ b6 < w'.heap.size ∧ w'.cell? ⟨b6, 0, none⟩ = some (.bool sq) ∧ w'.cell? ⟨b6, 1, none⟩ = some (.slice Aq nq cq) ∧ RI w' ex sq Aq nq cq 1)
            case first =>
              go_region_held3 (fun w' => w'.cell? ⟨g, 0, none⟩ = some (.bool s4) ∧ w'.cell? ⟨g, 0 + 1, none⟩ = some (.slice A4 n4 c4) ∧ w'.cell? ⟨b, o + j * 12 + 2, none⟩ = some (.bool s2) ∧ w'.cell? ⟨b, o + j * 12 + 2 + 1, none⟩ = some (.slice A2 n2 c2))
                ((repeat' apply And.intro) <;> first | (simp [*, go_sem, ↓IntWalk.iteOmega]; done) | (refine got_of ?_; simp [*, go_sem, ↓IntWalk.iteOmega]; done))
                (first | (go_at_call 149; refine (r1divmod_ok _ ex s4 A4 n4 c4 1 s2 A2 n2 c2 ((1 : Nat) : Int) (hi4.mono (Kr.of_below (by repeat first | with_reducible exact .refl .. | with_reducible assumption | refine .s ?_ ?_ | refine .m ?_ ?_ | refine .l ?_ ?_ | refine .d ?_ | refine .e ?_ | (simp <;> omega) | omega) _)) (hqd.mono (Kr.of_below (by repeat first | with_reducible exact .refl .. | with_reducible assumption | refine .s ?_ ?_ | refine .m ?_ ?_ | refine .l ?_ ?_ | refine .d ?_ | refine .e ?_ | (simp <;> omega) | omega) _)) (by decide) (Wee.of (by decide)) (by omega) (by omega) (fun b hb => by have := hex b hb; simp; omega)).mono ?_; rintro e w' ⟨s7, A7, n7, c7, s8, A8, n8, c8, X7, D7, rfl, rfl, h7, h8⟩))
              all_goals (rename_i hHeldZ; clear hHeldZ)
              all_goals
                go_wp2_with fail
                go_meet
                case rel => exact ⟨_, s7, A7, n7, c7, rfl, rfl, (by repeat first | with_reducible exact .refl .. | with_reducible assumption | refine .s ?_ ?_ | refine .m ?_ ?_ | refine .l ?_ ?_ | refine .d ?_ | refine .e ?_ | (simp <;> omega) | omega), (by first | (simp; done) | (simp; omega) | omega), (by first | (simp; done) | (simp; omega) | omega), by simp [go_sem, ↓IntWalk.iteOmega], by simp [go_sem, ↓IntWalk.iteOmega], h7.keepW (by repeat (first | (with_reducible exact Kw.refl _) | (with_reducible assumption) | refine Kw.setCell ?_ (by intro x; simp [*, go_sem, ↓IntWalk.iteOmega]) | refine Kw.more ?_ _ _ | refine Kw.alloc ?_ _ | refine Kw.drew ?_ | refine Kw.drewN ?_ _))⟩
            case rest =>
              obtain ⟨b6, sq, Aq, nq, cq, rfl, rfl, hB1, hb61, hb62, j0, j1, hiq⟩ := hcut
              have hsz1 := hB1.size
              have k0 := (Below.at0 hB1 (show g < wr.heap.size by omega) 0).trans b0
              have k1 := (Below.at0 hB1 (show g < wr.heap.size by omega) 1).trans b1
              have k2 := (Below.at0 hB1 (show g + 1 < wr.heap.size by omega) 0).trans b2
              have k3 := (Below.at0 hB1 (show g + 1 < wr.heap.size by omega) 1).trans b3
              have l2 := (hB1.frozen (p := ⟨g + 1, 0, none⟩) (show g + 1 < wr.heap.size by omega)).trans f2
              have l3 := (hB1.frozen (p := ⟨g + 1, 1, none⟩) (show g + 1 < wr.heap.size by omega)).trans f3
              have m0 := (Below.at0 hB1 (show b < wr.heap.size by omega) (o + j * 12)).trans h0
              have m1 := (Below.at0 hB1 (show b < wr.heap.size by omega) (o + j * 12 + 1)).trans h1
              have hi3' := hi3.mono (Kr.of_below hB1 _)
              have hi4' := hi4.mono (Kr.of_below hB1 _)
              have hqn' := hqn.mono (Kr.of_below hB1 _)
              have hbw := hb.trans (hB1.mono hsz)
              have hgg : g + 1 < wc.heap.size := by omega
              have hNq := hiq.n (by decide)
              clear b0 b1 b2 b3 f2 f3 hi3 hi4 hqd hqn hb h2' h3' h0 h1
              go_wp2_with fail
              go_region_with (first
                | (go_at_call 64; refine (r1imul_ok _ ex s1 A1 n1 c1 nn sq Aq nq cq 1 (hqn'.mono (Kr.of_below (by repeat first | with_reducible exact .refl .. | with_reducible assumption | refine .s ?_ ?_ | refine .m ?_ ?_ | refine .l ?_ ?_ | refine .d ?_ | refine .e ?_ | (simp <;> omega) | omega) _)) (hiq.mono (Kr.of_below (by repeat first | with_reducible exact .refl .. | with_reducible assumption | refine .s ?_ ?_ | refine .m ?_ ?_ | refine .l ?_ ?_ | refine .d ?_ | refine .e ?_ | (simp <;> omega) | omega) _)) (by omega) (by omega) (fun b hb => by have := hex b hb; simp; omega)).mono ?_; rw [Int.mul_one]; rintro e w' ⟨s5, A5, n5, c5, X5, D5, rfl, rfl, h5⟩)
                | (go_at_call 117; refine (r1gcd_ok _ ex s3 A3 n3 c3 G s5 A5 n5 c5 nn (hi3'.mono (Kr.of_below (by repeat first | with_reducible exact .refl .. | with_reducible assumption | refine .s ?_ ?_ | refine .m ?_ ?_ | refine .l ?_ ?_ | refine .d ?_ | refine .e ?_ | (simp <;> omega) | omega) _)) (h5.mono (Kr.of_below (by repeat first | with_reducible exact .refl .. | with_reducible assumption | refine .s ?_ ?_ | refine .m ?_ ?_ | refine .l ?_ ?_ | refine .d ?_ | refine .e ?_ | (simp <;> omega) | omega) _)) (Wee.of (by omega)) (by omega) (by have := h5.n (by omega); omega) (fun b hb => by have := hex b hb; simp; omega)).mono ?_; rintro e w' ⟨s9, A9, n9, c9, X9, D9, rfl, rfl, h9⟩))
              all_goals
                go_wp2_with fail
                go_roundw
                case rel => exact ⟨j + 1, s9, A9, n9, c9, by omega, by go_num, hbw.trans (show Below w.heap.size wc _ from (by repeat first | with_reducible exact .refl .. | with_reducible assumption | refine .s ?_ ?_ | refine .m ?_ ?_ | refine .l ?_ ?_ | refine .d ?_ | refine .e ?_ | (simp <;> omega) | omega)), by simp; omega, by simp [*, go_sem, ↓IntWalk.iteOmega], by simp [*, go_sem, ↓IntWalk.iteOmega], by simp [*, go_sem, ↓IntWalk.iteOmega], by simp [*, go_sem, ↓IntWalk.iteOmega], by simp [*, go_sem, ↓IntWalk.iteOmega], by simp [*, go_sem, ↓IntWalk.iteOmega], hi4'.keepW (by repeat (first | (with_reducible exact Kw.refl _) | (with_reducible assumption) | refine Kw.setCell ?_ (by intro x; simp [*, go_sem, ↓IntWalk.iteOmega]) | refine Kw.more ?_ _ _ | refine Kw.alloc ?_ _ | refine Kw.drew ?_ | refine Kw.drewN ?_ _)), by rw [HND.out]; exact h9.keepW (by repeat (first | (with_reducible exact Kw.refl _) | (with_reducible assumption) | refine Kw.setCell ?_ (by intro x; simp [*, go_sem, ↓IntWalk.iteOmega]) | refine Kw.more ?_ _ _ | refine Kw.alloc ?_ _ | refine Kw.drew ?_ | refine Kw.drewN ?_ _))⟩
                case measure => simp [intOf]; omega
          · obtain rfl : n = j := by omega
            have hxw := hx.mono (Kr.of_below hb ex)
            obtain ⟨b, o, rfl, hbx, hbl, ht⟩ := hxw.at_ (by omega)
            have h0p : 0 < p.length := by rw [← HL.out]; omega
            obtain ⟨s1, A1, n1, c1, s2, A2, n2, c2, e0, e1, e2, e3, e4, e5, e6, e7, h0, h1, h2, h3, h4, h5, h6, h7, h8, h9, h10, h11, hq, hm⟩ := ht 0 h0p
            rw [show o + 0 * 12 = o by omega] at h0 h1 h2 h3
            have hall : p.take n = p := List.take_of_length_le (by rw [← HL.out]; exact Nat.le_refl _)
            have hhd : p.headD (0, []) = p[0] := by
              cases p with
              | nil => simp at h0p
              | cons a r => rfl
            have hpne : p ≠ [] := by rintro rfl; simp at h0p
            have hgz := gp2 (by omega)
            rw [hall] at hi3 gp0 gp1 hgz
            have hneg : p[0].1 < 0 ↔ p[0].1.num < 0 := rat_neg_iff
            have hnum : p[0].1.num ≠ 0 := fun e => HNZ.out _ (List.getElem_mem h0p) (Rat.num_eq_zero.1 e)
            have HC : Hid (normP p = timesP (Rat.divInt 1 (if p[0].1.num < 0 then -(numG p) else numG p)) mono0 p) := Lib.hid (by
              unfold normP normC
              rw [if_neg hpne, hhd, denL_ip HIP.out]
              by_cases hc : p[0].1.num < 0
              · rw [if_pos (hneg.2 hc), if_pos hc]
              · rw [if_neg (fun h => hc (hneg.1 h)), if_neg hc])
            obtain ⟨G, hG⟩ : ∃ x, numG p = x := ⟨_, rfl⟩
            rw [hG] at HC
            rw [hG] at hi3 gp0 gp1 hgz
            obtain ⟨q, hq1⟩ : ∃ x, p[0].1 = x := ⟨_, rfl⟩
            rw [hq1] at HC hq hnum
            have hN3 := hi3.n (by omega)
            have hN4 := hi4.n (by decide)
            obtain ⟨u1, u2⟩ := divInt_bound (a := 1) (d := G) (by omega)
            have hty1 : Ty (Rat.divInt 1 G) := ⟨by omega, by omega⟩
            have hty2 : Ty (-(Rat.divInt 1 G)) := ⟨by rw [Rat.neg_num, Int.natAbs_neg]; exact hty1.1, by rw [Rat.neg_den]; exact hty1.2⟩
            clear hm ht hG hneg hq1 hhd hall hpne h4 h5 h6 h7 h8 h9 h10 h11 gp2
            by_cases hng : q.num < 0
            · have hsg : q.num.sign = -1 := Int.sign_eq_neg_one_of_neg hng
              have HC2 : Hid (normP p = timesP (-(Rat.divInt 1 G)) mono0 p) := Lib.hid (by rw [HC.out, if_pos hng, Rat.divInt_neg', Rat.neg_divInt])
              go_wp2_with fail
              refine (r2new_ok _ ex s4 A4 n4 c4 1 s3 A3 n3 c3 G (hi4.mono (Kr.of_below (by repeat first | with_reducible exact .refl .. | with_reducible assumption | refine .s ?_ ?_ | refine .m ?_ ?_ | refine .l ?_ ?_ | refine .d ?_ | refine .e ?_ | (simp <;> omega) | omega) _)) (hi3.mono (Kr.of_below (by repeat first | with_reducible exact .refl .. | with_reducible assumption | refine .s ?_ ?_ | refine .m ?_ ?_ | refine .l ?_ ?_ | refine .d ?_ | refine .e ?_ | (simp <;> omega) | omega) _)) (by omega) (Wee.of (by omega)) (by omega) (by omega) (fun b hb => by have := hex b hb; simp; omega)).mono ?_; rintro e w1 ⟨s5, A5, n5, c5, s6, A6, n6, c6, X5, D5, rfl, rfl, h5⟩
              go_wp2_with fail
              refine (r2sign_ok _ ex s1 A1 n1 c1 s2 A2 n2 c2 q (hq.mono (Kr.of_below (by repeat first | with_reducible exact .refl .. | with_reducible assumption | refine .s ?_ ?_ | refine .m ?_ ?_ | refine .l ?_ ?_ | refine .d ?_ | refine .e ?_ | (simp <;> omega) | omega) _))).mono ?_; rintro e w1 ⟨X1, D1, rfl, rfl⟩
              rw [hsg]
              go_wp2_with fail
              refine (r2neg_ok _ ex s5 A5 n5 c5 s6 A6 n6 c6 _ (h5.mono (Kr.of_below (by repeat first | with_reducible exact .refl .. | with_reducible assumption | refine .s ?_ ?_ | refine .m ?_ ?_ | refine .l ?_ ?_ | refine .d ?_ | refine .e ?_ | (simp <;> omega) | omega) _)) (by have := h5.num.n (by omega); omega)).mono ?_; rintro e w1 ⟨s7, A7, n7, c7, s8, A8, n8, c8, X6, D6, rfl, rfl, h6⟩
              go_wp2_with fail
              refine (r6times_ok _ ex s7 A7 n7 c7 s8 A8 n8 c8 _ 0 0 0 0 0 0 0 0 _ n c p (h6.keepW (by repeat (first | (with_reducible exact Kw.refl _) | (with_reducible assumption) | refine Kw.setCell ?_ (by intro x; simp [*, go_sem, ↓IntWalk.iteOmega]) | refine Kw.more ?_ _ _ | refine Kw.alloc ?_ _ | refine Kw.drew ?_ | refine Kw.drewN ?_ _))) (hx.mono (Kr.of_below (hb.trans (show Below w.heap.size wr _ from (by repeat first | with_reducible exact .refl .. | with_reducible assumption | refine .s ?_ ?_ | refine .m ?_ ?_ | refine .l ?_ ?_ | refine .d ?_ | refine .e ?_ | (simp <;> omega) | omega))) _)) exps0 HP.out HM0.out hty2 HT.out (by omega) (fun b hb => by have := hex b hb; simp; omega)).mono ?_; rintro e w1 ⟨A', n', c', X, D, rfl, rfl, h7⟩
              go_wp2_with fail
              go_ret
              rw [HC2.out]
              exact RetP.mk rfl (hb.trans (show Below w.heap.size wr _ from (by repeat first | with_reducible exact .refl .. | with_reducible assumption | refine .s ?_ ?_ | refine .m ?_ ?_ | refine .l ?_ ?_ | refine .d ?_ | refine .e ?_ | (simp <;> omega) | omega))) h7
            · have hsg : q.num.sign = 1 := Int.sign_eq_one_of_pos (by omega)
              have HC2 : Hid (normP p = timesP (Rat.divInt 1 G) mono0 p) := Lib.hid (by rw [HC.out, if_neg hng])
              go_wp2_with fail
              refine (r2new_ok _ ex s4 A4 n4 c4 1 s3 A3 n3 c3 G (hi4.mono (Kr.of_below (by repeat first | with_reducible exact .refl .. | with_reducible assumption | refine .s ?_ ?_ | refine .m ?_ ?_ | refine .l ?_ ?_ | refine .d ?_ | refine .e ?_ | (simp <;> omega) | omega) _)) (hi3.mono (Kr.of_below (by repeat first | with_reducible exact .refl .. | with_reducible assumption | refine .s ?_ ?_ | refine .m ?_ ?_ | refine .l ?_ ?_ | refine .d ?_ | refine .e ?_ | (simp <;> omega) | omega) _)) (by omega) (Wee.of (by omega)) (by omega) (by omega) (fun b hb => by have := hex b hb; simp; omega)).mono ?_; rintro e w1 ⟨s5, A5, n5, c5, s6, A6, n6, c6, X5, D5, rfl, rfl, h5⟩
              go_wp2_with fail
              refine (r2sign_ok _ ex s1 A1 n1 c1 s2 A2 n2 c2 q (hq.mono (Kr.of_below (by repeat first | with_reducible exact .refl .. | with_reducible assumption | refine .s ?_ ?_ | refine .m ?_ ?_ | refine .l ?_ ?_ | refine .d ?_ | refine .e ?_ | (simp <;> omega) | omega) _))).mono ?_; rintro e w1 ⟨X1, D1, rfl, rfl⟩
              rw [hsg]
              go_wp2_with fail
              refine (r6times_ok _ ex s5 A5 n5 c5 s6 A6 n6 c6 _ 0 0 0 0 0 0 0 0 _ n c p (h5.keepW (by repeat (first | (with_reducible exact Kw.refl _) | (with_reducible assumption) | refine Kw.setCell ?_ (by intro x; simp [*, go_sem, ↓IntWalk.iteOmega]) | refine Kw.more ?_ _ _ | refine Kw.alloc ?_ _ | refine Kw.drew ?_ | refine Kw.drewN ?_ _))) (hx.mono (Kr.of_below (hb.trans (show Below w.heap.size wr _ from (by repeat first | with_reducible exact .refl .. | with_reducible assumption | refine .s ?_ ?_ | refine .m ?_ ?_ | refine .l ?_ ?_ | refine .d ?_ | refine .e ?_ | (simp <;> omega) | omega))) _)) exps0 HP.out HM0.out hty1 HT.out (by omega) (fun b hb => by have := hex b hb; simp; omega)).mono ?_; rintro e w1 ⟨A', n', c', X, D, rfl, rfl, h7⟩
              go_wp2_with fail
              go_ret
              rw [HC2.out]
              exact RetP.mk rfl (hb.trans (show Below w.heap.size wr _ from (by repeat first | with_reducible exact .refl .. | with_reducible assumption | refine .s ?_ ?_ | refine .m ?_ ?_ | refine .l ?_ ?_ | refine .d ?_ | refine .e ?_ | (simp <;> omega) | omega))) h7

end Go.Proofs.YthhdleppkggepaaGreat
