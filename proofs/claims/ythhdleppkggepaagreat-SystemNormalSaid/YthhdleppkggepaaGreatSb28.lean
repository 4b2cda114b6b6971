/-
  The walk of the reference of package polynomial: multiples.
-/
import Derived.Test.YthhdleppkggepaaGreatSb10
import Derived.Test.YthhdleppkggepaaGreatSb11
import Derived.Test.YthhdleppkggepaaGreatSb12
import Derived.Test.YthhdleppkggepaaGreatSb15
import Derived.Test.YthhdleppkggepaaGreatSb24
import Derived.Test.YthhdleppkggepaaGreatSb27

set_option linter.unusedSimpArgs false
set_option linter.unusedVariables false
set_option linter.unusedSectionVars false

namespace Go.Proofs.YthhdleppkggepaaGreat
open Go.RowKit Go.Deep
set_option maxRecDepth 100000

theorem own_notin {v : Value} {ex : List Nat} {b B : Nat} (hv : ∀ b ∈ own v, B ≤ b) (hx : b ∉ ex) (hb : b < B) : b ∉ own v ++ ex := by
  intro h
  rcases List.mem_append.1 h with h | h
  · have := hv b h; omega
  · exact hx h
theorem new_notin {v : Value} {ex : List Nat} {b B : Nat} (hv : ∀ b ∈ own v, b < B) (hx : ∀ b ∈ ex, b < B) (hb : B ≤ b) : b ∉ own v ++ ex := by
  intro h
  rcases List.mem_append.1 h with h | h
  · have := hv b h; omega
  · have := hx b h; omega

set_option maxHeartbeats 8000000 in
theorem r6times_ok (w : World) (ex : List Nat) (s3 : Bool) (A3 : Option Addr) (n3 c3 : Nat) (s4 : Bool) (A4 : Option Addr) (n4 c4 : Nat) (q : Rat) (m0 m1 m2 m3 m4 m5 m6 m7 : Int) (A : Option Addr) (n c : Nat) (p : List (Rat × List Int)) (hcq : RQ w ex s3 A3 n3 c3 s4 A4 n4 c4 q) (hx : RP w ex A n c p) (hm : Exps [m0, m1, m2, m3, m4, m5, m6, m7]) (hp : PExps p) (hok : MulOk [m0, m1, m2, m3, m4, m5, m6, m7] p)
    (hq0 : Ty q) (hty : PTy p) (hn : n ≤ 1000000000) (hex : ∀ b ∈ ex, b < w.heap.size) :
    Calls Tryz.prog 27 #[.agg #[.bool s3, .slice A3 n3 c3, .bool s4, .slice A4 n4 c4], .agg #[.int .i64 m0, .int .i64 m1, .int .i64 m2, .int .i64 m3, .int .i64 m4, .int .i64 m5, .int .i64 m6, .int .i64 m7], .slice A n c] w (RetPE w ex (timesP q [m0, m1, m2, m3, m4, m5, m6, m7] p) 0) := by
  have HL := Lib.hid hx.len
  have hcap := hx.cap
  have HP := Lib.hid hp
  have HT := Lib.hid hty
  have HO := Lib.hid hok
  have HM := Lib.hid hm
  clear hp hty hok hm
  by_cases h0 : q = 0
  · have hs := sign_eq_zero h0
    have HC : Hid (timesP q [m0, m1, m2, m3, m4, m5, m6, m7] p = []) := if_pos h0
    clear h0
    go_enter Tryz.func27, Tryz.ntmps27
    go_wp2_with fail
    refine (r2sign_ok _ ex _ _ _ _ _ _ _ _ _ (hcq.mono (Kr.of_below (by repeat first | with_reducible exact .refl .. | with_reducible assumption | refine .s ?_ ?_ | refine .m ?_ ?_ | refine .l ?_ ?_ | refine .d ?_ | refine .e ?_ | (simp <;> omega) | omega) ex))).mono ?_; rintro e w1 ⟨X, D, rfl, rfl⟩
    go_wp2_with fail
    refine bodyPost_ret (v := .tuple #[.slice none 0 0, .int .i64 0]) (by simp [results, Tryz.results27, go_sem, ↓IntWalk.iteOmega]) rfl ?_
    rw [HC.out]
    exact RetPE.mk rfl (by repeat first | with_reducible exact .refl .. | with_reducible assumption | refine .s ?_ ?_ | refine .m ?_ ?_ | refine .l ?_ ?_ | refine .d ?_ | refine .e ?_ | (simp <;> omega) | omega) (RP.nil _ _ _ _)
  · have hs := sign_ne_zero h0
    have H0 := Lib.hid h0
    clear h0
    go_enter Tryz.func27, Tryz.ntmps27
    go_wp2_with fail
    refine (r2sign_ok _ ex _ _ _ _ _ _ _ _ _ (hcq.mono (Kr.of_below (by repeat first | with_reducible exact .refl .. | with_reducible assumption | refine .s ?_ ?_ | refine .m ?_ ?_ | refine .l ?_ ?_ | refine .d ?_ | refine .e ?_ | (simp <;> omega) | omega) ex))).mono ?_; rintro e w1 ⟨X, D, rfl, rfl⟩
    go_wp2_with fail
    obtain ⟨W0, hW0⟩ : ∃ W0, W0 = ((((w.alloc (.cells #[.bool s3, .slice A3 n3 c3, .bool s4, .slice A4 n4 c4] 59)).alloc (.cells #[.int .i64 m0, .int .i64 m1, .int .i64 m2, .int .i64 m3, .int .i64 m4, .int .i64 m5, .int .i64 m6, .int .i64 m7] 68)).alloc (.cells #[] 118)).more X D) := ⟨_, rfl⟩
    have HW := Lib.hid hW0
    have hsz0 : W0.heap.size = w.heap.size + 3 + X.size := by rw [hW0]; simp
    have hbel0 : Below w.heap.size w W0 := by rw [hW0]; exact (by repeat first | with_reducible exact .refl .. | with_reducible assumption | refine .s ?_ ?_ | refine .m ?_ ?_ | refine .l ?_ ?_ | refine .d ?_ | refine .e ?_ | (simp <;> omega) | omega)
    have hown0 : OwnL tmE W0 (w.heap.size + 2) ex (.slice (some ⟨w.heap.size + 2, 0, none⟩) 0 0) [] := by
      rw [hW0]
      have := OwnL.empty (E := tmE) ((w.alloc (.cells #[.bool s3, .slice A3 n3 c3, .bool s4, .slice A4 n4 c4] 59)).alloc (.cells #[.int .i64 m0, .int .i64 m1, .int .i64 m2, .int .i64 m3, .int .i64 m4, .int .i64 m5, .int .i64 m6, .int .i64 m7] 68)) (w.heap.size + 2) ex (by simp)
      rw [World.size_alloc, World.size_alloc] at this
      exact this.keep (World.below_more _ _ _)
    have b0 : W0.cell? ⟨w.heap.size, 0, none⟩ = some (.bool s3) := by rw [hW0]; simp [go_sem, ↓IntWalk.iteOmega]
    have b1 : W0.cell? ⟨w.heap.size, 1, none⟩ = some (.slice A3 n3 c3) := by rw [hW0]; simp [go_sem, ↓IntWalk.iteOmega]
    have b2 : W0.cell? ⟨w.heap.size, 2, none⟩ = some (.bool s4) := by rw [hW0]; simp [go_sem, ↓IntWalk.iteOmega]
    have b3 : W0.cell? ⟨w.heap.size, 3, none⟩ = some (.slice A4 n4 c4) := by rw [hW0]; simp [go_sem, ↓IntWalk.iteOmega]
    have x0 : W0.cell? ⟨w.heap.size + 1, 0, none⟩ = some (.int .i64 m0) := by rw [hW0]; simp [go_sem, ↓IntWalk.iteOmega]
    have x1 : W0.cell? ⟨w.heap.size + 1, 1, none⟩ = some (.int .i64 m1) := by rw [hW0]; simp [go_sem, ↓IntWalk.iteOmega]
    have x2 : W0.cell? ⟨w.heap.size + 1, 2, none⟩ = some (.int .i64 m2) := by rw [hW0]; simp [go_sem, ↓IntWalk.iteOmega]
    have x3 : W0.cell? ⟨w.heap.size + 1, 3, none⟩ = some (.int .i64 m3) := by rw [hW0]; simp [go_sem, ↓IntWalk.iteOmega]
    have x4 : W0.cell? ⟨w.heap.size + 1, 4, none⟩ = some (.int .i64 m4) := by rw [hW0]; simp [go_sem, ↓IntWalk.iteOmega]
    have x5 : W0.cell? ⟨w.heap.size + 1, 5, none⟩ = some (.int .i64 m5) := by rw [hW0]; simp [go_sem, ↓IntWalk.iteOmega]
    have x6 : W0.cell? ⟨w.heap.size + 1, 6, none⟩ = some (.int .i64 m6) := by rw [hW0]; simp [go_sem, ↓IntWalk.iteOmega]
    have x7 : W0.cell? ⟨w.heap.size + 1, 7, none⟩ = some (.int .i64 m7) := by rw [hW0]; simp [go_sem, ↓IntWalk.iteOmega]
    rw [← hW0]
    clear hW0
    go_loopw [8, 9] (fun v i wr => ∃ k : Nat, k ≤ n ∧ i = .int .i64 k ∧ OwnL tmE wr (w.heap.size + 2) ex v ((timesP q [m0, m1, m2, m3, m4, m5, m6, m7] p).take k) ∧ Below (w.heap.size + 2) W0 wr) (fun _ i _ => n - (intOf i).toNat)
    case atStart => exact ⟨0, Nat.zero_le _, rfl, by simpa using hown0, Below.refl _ _⟩
    case round =>
      obtain ⟨k, hk, rfl, hown, hb⟩ := hrel
      have hbw : Below w.heap.size w wr := hbel0.trans (hb.mono (by omega))
      have hsz := hb.size
      have hvle := hown.le
      have hlen : ((timesP q [m0, m1, m2, m3, m4, m5, m6, m7] p).take k).length = k := by rw [List.length_take, timesP_len H0.out]; have := HL.out; omega
      obtain ⟨vA, vc, rfl, hvc⟩ := hown.form hlen
      by_cases hlt : k < n
      · have hxw := hx.mono (Kr.fresh (l := own (.slice vA k vc)) hbw (fun b hb => by have := (hvle b hb).1; omega))
        have hqw := hcq.mono (Kr.fresh (l := own (.slice vA k vc)) hbw (fun b hb => by have := (hvle b hb).1; omega))
        have hxl := hx.at_ (by omega)
        obtain ⟨b, o, rfl, hbx, hbl, ht⟩ := hxw.at_ (by omega)
        have hbw0 : b < w.heap.size := by obtain ⟨b', o', e, _, hl, _⟩ := hxl; cases e; exact hl
        clear hxl
        have hkp : k < p.length := by have := HL.out; omega
        obtain ⟨s1, A1, n1, c1, s2, A2, n2, c2, e0, e1, e2, e3, e4, e5, e6, e7, h0, h1, h2, h3, h4, h5, h6, h7, h8, h9, h10, h11, hq, hm⟩ := ht k hkp
        have hd1 : wr.cell? ⟨b, o + k * 12 + 4 + 1, none⟩ = some (.int .i64 e1) := h5
        have hd2 : wr.cell? ⟨b, o + k * 12 + 4 + 2, none⟩ = some (.int .i64 e2) := h6
        have hd3 : wr.cell? ⟨b, o + k * 12 + 4 + 3, none⟩ = some (.int .i64 e3) := h7
        have hd4 : wr.cell? ⟨b, o + k * 12 + 4 + 4, none⟩ = some (.int .i64 e4) := h8
        have hd5 : wr.cell? ⟨b, o + k * 12 + 4 + 5, none⟩ = some (.int .i64 e5) := h9
        have hd6 : wr.cell? ⟨b, o + k * 12 + 4 + 6, none⟩ = some (.int .i64 e6) := h10
        have hd7 : wr.cell? ⟨b, o + k * 12 + 4 + 7, none⟩ = some (.int .i64 e7) := h11
        have hT : Ty p[k].1 := HT.out _ (List.getElem_mem hkp)
        have hE : Exps [e0, e1, e2, e3, e4, e5, e6, e7] := by rw [← hm]; exact HP.out _ (List.getElem_mem hkp)
        have hS : Exps [m0 + e0, m1 + e1, m2 + e2, m3 + e3, m4 + e4, m5 + e5, m6 + e6, m7 + e7] := by have := HO.out _ (List.getElem_mem hkp); rw [hm] at this; exact this
        have HN : Hid (((timesP q [m0, m1, m2, m3, m4, m5, m6, m7] p).take k) ++ [(q * p[k].1, [m0 + e0, m1 + e1, m2 + e2, m3 + e3, m4 + e4, m5 + e5, m6 + e6, m7 + e7])] = (timesP q [m0, m1, m2, m3, m4, m5, m6, m7] p).take (k + 1)) := by
          have := timesP_take (m := [m0, m1, m2, m3, m4, m5, m6, m7]) H0.out hkp; rw [hm] at this; exact this.symm
        have hn1 := hq.n1 hT
        have hn2 := hq.n2 hT
        clear h5 h6 h7 h8 h9 h10 h11 hm ht
        have y0 := (Below.at0 hb (show w.heap.size < w.heap.size + 2 by omega) 0).trans b0
        have y1 := (Below.at0 hb (show w.heap.size < w.heap.size + 2 by omega) 1).trans b1
        have y2 := (Below.at0 hb (show w.heap.size < w.heap.size + 2 by omega) 2).trans b2
        have y3 := (Below.at0 hb (show w.heap.size < w.heap.size + 2 by omega) 3).trans b3
        have z0 := (Below.at0 hb (show w.heap.size + 1 < w.heap.size + 2 by omega) 0).trans x0
        have z1 := (Below.at0 hb (show w.heap.size + 1 < w.heap.size + 2 by omega) 1).trans x1
        have z2 := (Below.at0 hb (show w.heap.size + 1 < w.heap.size + 2 by omega) 2).trans x2
        have z3 := (Below.at0 hb (show w.heap.size + 1 < w.heap.size + 2 by omega) 3).trans x3
        have z4 := (Below.at0 hb (show w.heap.size + 1 < w.heap.size + 2 by omega) 4).trans x4
        have z5 := (Below.at0 hb (show w.heap.size + 1 < w.heap.size + 2 by omega) 5).trans x5
        have z6 := (Below.at0 hb (show w.heap.size + 1 < w.heap.size + 2 by omega) 6).trans x6
        have z7 := (Below.at0 hb (show w.heap.size + 1 < w.heap.size + 2 by omega) 7).trans x7
        clear b0 b1 b2 b3 x0 x1 x2 x3 x4 x5 x6 x7
        generalize hPt : (timesP q [m0, m1, m2, m3, m4, m5, m6, m7] p).take k = P at *
        have HPt := Lib.hid hPt; clear hPt
        have hi1 : (k : Int) < (n : Int) := by omega
        go_wp2_with fail
        go_region_held3 (fun w' => w'.cell? ⟨b, o + k * 12 + 4, none⟩ = some (.int .i64 e0) ∧ w'.cell? ⟨b, o + k * 12 + 4 + 1, none⟩ = some (.int .i64 e1) ∧ w'.cell? ⟨b, o + k * 12 + 4 + 2, none⟩ = some (.int .i64 e2) ∧ w'.cell? ⟨b, o + k * 12 + 4 + 3, none⟩ = some (.int .i64 e3) ∧ w'.cell? ⟨b, o + k * 12 + 4 + 4, none⟩ = some (.int .i64 e4) ∧ w'.cell? ⟨b, o + k * 12 + 4 + 5, none⟩ = some (.int .i64 e5) ∧ w'.cell? ⟨b, o + k * 12 + 4 + 6, none⟩ = some (.int .i64 e6) ∧ w'.cell? ⟨b, o + k * 12 + 4 + 7, none⟩ = some (.int .i64 e7) ∧ w'.cell? ⟨w.heap.size + 1, 0, none⟩ = some (.int .i64 m0) ∧ w'.cell? ⟨w.heap.size + 1, 0 + 1, none⟩ = some (.int .i64 m1) ∧ w'.cell? ⟨w.heap.size + 1, 0 + 2, none⟩ = some (.int .i64 m2) ∧ w'.cell? ⟨w.heap.size + 1, 0 + 3, none⟩ = some (.int .i64 m3) ∧ w'.cell? ⟨w.heap.size + 1, 0 + 4, none⟩ = some (.int .i64 m4) ∧ w'.cell? ⟨w.heap.size + 1, 0 + 5, none⟩ = some (.int .i64 m5) ∧ w'.cell? ⟨w.heap.size + 1, 0 + 6, none⟩ = some (.int .i64 m6) ∧ w'.cell? ⟨w.heap.size + 1, 0 + 7, none⟩ = some (.int .i64 m7))
          ((repeat' apply And.intro) <;> first | (simp [*, go_sem, ↓IntWalk.iteOmega]; done) | (refine got_of ?_; simp [*, go_sem, ↓IntWalk.iteOmega]; done))
          (first | (go_at_call 67; refine (r4mul_ok _ m0 m1 m2 m3 m4 m5 m6 m7 e0 e1 e2 e3 e4 e5 e6 e7 HM.out hE hS).mono ?_; rintro e w' ⟨X1, D1, rfl, rfl⟩))
        all_goals (rename_i hHeldZ; clear hHeldZ)
        · go_wp2_with fail
          obtain ⟨B8, hB8⟩ : ∃ B8, B8 = wr.heap.size + X1.size := ⟨_, rfl⟩
          have hB8l : wr.heap.size ≤ B8 := by omega
          refine wp_abs (fun W1 => Below wr.heap.size wr W1 ∧ B8 < W1.heap.size ∧ W1.cell? ⟨B8, 0, none⟩ = some (.int .i64 (m0 + e0)) ∧ W1.cell? ⟨B8, 1, none⟩ = some (.int .i64 (m1 + e1)) ∧ W1.cell? ⟨B8, 2, none⟩ = some (.int .i64 (m2 + e2)) ∧ W1.cell? ⟨B8, 3, none⟩ = some (.int .i64 (m3 + e3)) ∧ W1.cell? ⟨B8, 4, none⟩ = some (.int .i64 (m4 + e4)) ∧ W1.cell? ⟨B8, 5, none⟩ = some (.int .i64 (m5 + e5)) ∧ W1.cell? ⟨B8, 6, none⟩ = some (.int .i64 (m6 + e6)) ∧ W1.cell? ⟨B8, 7, none⟩ = some (.int .i64 (m7 + e7)))
            ⟨(by repeat first | with_reducible exact .refl .. | with_reducible assumption | refine .s ?_ ?_ | refine .m ?_ ?_ | refine .l ?_ ?_ | refine .d ?_ | refine .e ?_ | (simp <;> omega) | omega), by simp; omega, by simp [hB8, go_sem, ↓IntWalk.iteOmega], by simp [hB8, go_sem, ↓IntWalk.iteOmega], by simp [hB8, go_sem, ↓IntWalk.iteOmega], by simp [hB8, go_sem, ↓IntWalk.iteOmega], by simp [hB8, go_sem, ↓IntWalk.iteOmega], by simp [hB8, go_sem, ↓IntWalk.iteOmega], by simp [hB8, go_sem, ↓IntWalk.iteOmega], by simp [hB8, go_sem, ↓IntWalk.iteOmega]⟩ ?_
          rw [← hB8]
          rintro W1 ⟨hB1, hB8s, j0, j1, j2, j3, j4, j5, j6, j7⟩
          clear hB8
          have hsz1 := hB1.size
          have k0 := (Below.at0 hB1 (show w.heap.size < wr.heap.size by omega) 0).trans y0
          have k1 := (Below.at0 hB1 (show w.heap.size < wr.heap.size by omega) 1).trans y1
          have k2 := (Below.at0 hB1 (show w.heap.size < wr.heap.size by omega) 2).trans y2
          have k3 := (Below.at0 hB1 (show w.heap.size < wr.heap.size by omega) 3).trans y3
          have g0 := (Below.at0 hB1 hbl _).trans h0
          have g1 := (Below.at0 hB1 hbl _).trans h1
          have g2 := (Below.at0 hB1 hbl _).trans h2
          have g3 := (Below.at0 hB1 hbl _).trans h3
          have hown := hown.keep hB1
          have hq := hq.mono (Kr.of_below hB1 _)
          have hqw := hqw.mono (Kr.of_below hB1 _)
          have hb1 := hb.trans (hB1.mono (show w.heap.size + 2 ≤ wr.heap.size by omega))
          clear y0 y1 y2 y3 h0 h1 h2 h3 h4 hd1 hd2 hd3 hd4 hd5 hd6 hd7 z0 z1 z2 z3 z4 z5 z6 z7
          go_region_held3 (fun w' => w'.cell? ⟨w.heap.size, 0, none⟩ = some (.bool s3) ∧ w'.cell? ⟨w.heap.size, 0 + 1, none⟩ = some (.slice A3 n3 c3) ∧ w'.cell? ⟨w.heap.size, 0 + 2, none⟩ = some (.bool s4) ∧ w'.cell? ⟨w.heap.size, 0 + 3, none⟩ = some (.slice A4 n4 c4) ∧ w'.cell? ⟨b, o + k * 12, none⟩ = some (.bool s1) ∧ w'.cell? ⟨b, o + k * 12 + 1, none⟩ = some (.slice A1 n1 c1) ∧ w'.cell? ⟨b, o + k * 12 + 2, none⟩ = some (.bool s2) ∧ w'.cell? ⟨b, o + k * 12 + 3, none⟩ = some (.slice A2 n2 c2) ∧ w'.cell? ⟨B8, 0, none⟩ = some (.int .i64 (m0 + e0)) ∧ w'.cell? ⟨B8, 0 + 1, none⟩ = some (.int .i64 (m1 + e1)) ∧ w'.cell? ⟨B8, 0 + 2, none⟩ = some (.int .i64 (m2 + e2)) ∧ w'.cell? ⟨B8, 0 + 3, none⟩ = some (.int .i64 (m3 + e3)) ∧ w'.cell? ⟨B8, 0 + 4, none⟩ = some (.int .i64 (m4 + e4)) ∧ w'.cell? ⟨B8, 0 + 5, none⟩ = some (.int .i64 (m5 + e5)) ∧ w'.cell? ⟨B8, 0 + 6, none⟩ = some (.int .i64 (m6 + e6)) ∧ w'.cell? ⟨B8, 0 + 7, none⟩ = some (.int .i64 (m7 + e7)))
            ((repeat' apply And.intro) <;> first | (simp [*, go_sem, ↓IntWalk.iteOmega]; done) | (refine got_of ?_; simp [*, go_sem, ↓IntWalk.iteOmega]; done))
            (first | (go_at_call 68; refine (r2mul_ok _ (own (.slice vA k vc) ++ ex) s3 A3 n3 c3 s4 A4 n4 c4 _ s1 A1 n1 c1 s2 A2 n2 c2 _ (hqw.mono (Kr.of_below (by repeat first | with_reducible exact .refl .. | with_reducible assumption | refine .s ?_ ?_ | refine .m ?_ ?_ | refine .l ?_ ?_ | refine .d ?_ | refine .e ?_ | (simp <;> omega) | omega) _)) (hq.mono (Kr.of_below (by repeat first | with_reducible exact .refl .. | with_reducible assumption | refine .s ?_ ?_ | refine .m ?_ ?_ | refine .l ?_ ?_ | refine .d ?_ | refine .e ?_ | (simp <;> omega) | omega) _)) hq0.few hT.few (hq0.wee2 hT) (hexs hex (by simp; omega) (fun b hb => by have := (hvle b hb).2; simp; omega))).mono ?_; rintro e w' ⟨s5, A5, n5, c5, s6, A6, n6, c6, X2, D2, rfl, rfl, hres⟩) | (show (if Region.wanted { dst := _, op := Op.call { callee := Callee.builtin Builtin.append, args := _, argTypes := _ }, type := _, pos := _, after := _, guard := _ } _ = true then _ else _); refine step_append_elt tmE _ rfl _ _ 65 rfl Tryz.underlying65 (w.heap.size + 2) ex (.slice vA k vc) P rfl (hown.keep (by repeat first | with_reducible exact .refl .. | with_reducible assumption | refine .s ?_ ?_ | refine .m ?_ ?_ | refine .l ?_ ?_ | refine .d ?_ | refine .e ?_ | (simp <;> omega) | omega)) _ _ rfl (q * p[k].1, [m0 + e0, m1 + e1, m2 + e2, m3 + e3, m4 + e4, m5 + e5, m6 + e6, m7 + e7]) [.bool s5, .slice A5 n5 c5, .bool s6, .slice A6 n6 c6, .int .i64 (m0 + e0), .int .i64 (m1 + e1), .int .i64 (m2 + e2), .int .i64 (m3 + e3), .int .i64 (m4 + e4), .int .i64 (m5 + e5), .int .i64 (m6 + e6), .int .i64 (m7 + e7)] (cell_new _ _ _ _ (by simp)) (by intro hh; rcases List.mem_append.1 hh with hh | hh; (have := (hvle _ hh).2; omega); (have := hex _ hh; omega)) ⟨s5, A5, n5, c5, s6, A6, n6, c6, _, _, _, _, _, _, _, _, rfl, hres.mono (Kr.of_below (by repeat first | with_reducible exact .refl .. | with_reducible assumption | refine .s ?_ ?_ | refine .m ?_ ?_ | refine .l ?_ ?_ | refine .d ?_ | refine .e ?_ | (simp <;> omega) | omega) _), rfl⟩ (by rw [hlen]; omega) (by simp; omega) ?_; intro v' w1 hown1 hkr1 hbl1; have hbx1 := hbl1 _ _ (show Below (w.heap.size + 2) W1 _ from (by repeat first | with_reducible exact .refl .. | with_reducible assumption | refine .s ?_ ?_ | refine .m ?_ ?_ | refine .l ?_ ?_ | refine .d ?_ | refine .e ?_ | (simp <;> omega) | omega)) (Nat.le_refl _); have f1 := hkr1.cell (b := b) (by simp; omega) hbx; have f2 := hkr1.cell (b := w.heap.size) (by simp; omega) (by intro hh; rcases List.mem_append.1 hh with hh | hh; (have := (hvle _ hh).1; omega); (have := hex _ hh; omega)); have f3 := hkr1.cell (b := B8) (by simp; omega) (by intro hh; rcases List.mem_append.1 hh with hh | hh; (have := (hvle _ hh).2; omega); (have := hex _ hh; omega))))
          all_goals (rename_i hHeldZ; clear hHeldZ)
          go_wp2_with fail
          go_roundw
          case rel => exact ⟨k + 1, by omega, by go_num, by rw [← HN.out]; exact hown1, hb1.trans hbx1⟩
          case measure => simp [intOf]; omega
        · go_wp2_with fail
          refine wp_abs (fun W1 => Below wr.heap.size wr W1 ∧ wr.heap.size < W1.heap.size ∧ W1.cell? ⟨wr.heap.size, 0, none⟩ = some (.int .i64 (m0 + e0)) ∧ W1.cell? ⟨wr.heap.size, 1, none⟩ = some (.int .i64 (m1 + e1)) ∧ W1.cell? ⟨wr.heap.size, 2, none⟩ = some (.int .i64 (m2 + e2)) ∧ W1.cell? ⟨wr.heap.size, 3, none⟩ = some (.int .i64 (m3 + e3)) ∧ W1.cell? ⟨wr.heap.size, 4, none⟩ = some (.int .i64 (m4 + e4)) ∧ W1.cell? ⟨wr.heap.size, 5, none⟩ = some (.int .i64 (m5 + e5)) ∧ W1.cell? ⟨wr.heap.size, 6, none⟩ = some (.int .i64 (m6 + e6)) ∧ W1.cell? ⟨wr.heap.size, 7, none⟩ = some (.int .i64 (m7 + e7)))
            ⟨(by repeat first | with_reducible exact .refl .. | with_reducible assumption | refine .s ?_ ?_ | refine .m ?_ ?_ | refine .l ?_ ?_ | refine .d ?_ | refine .e ?_ | (simp <;> omega) | omega), by simp; omega, by simp [go_sem, ↓IntWalk.iteOmega], by simp [go_sem, ↓IntWalk.iteOmega], by simp [go_sem, ↓IntWalk.iteOmega], by simp [go_sem, ↓IntWalk.iteOmega], by simp [go_sem, ↓IntWalk.iteOmega], by simp [go_sem, ↓IntWalk.iteOmega], by simp [go_sem, ↓IntWalk.iteOmega], by simp [go_sem, ↓IntWalk.iteOmega]⟩ ?_
          rintro W1 ⟨hB1, hBs, j0, j1, j2, j3, j4, j5, j6, j7⟩
          have hsz1 := hB1.size
          have k0 := (Below.at0 hB1 (show w.heap.size < wr.heap.size by omega) 0).trans y0
          have k1 := (Below.at0 hB1 (show w.heap.size < wr.heap.size by omega) 1).trans y1
          have k2 := (Below.at0 hB1 (show w.heap.size < wr.heap.size by omega) 2).trans y2
          have k3 := (Below.at0 hB1 (show w.heap.size < wr.heap.size by omega) 3).trans y3
          have g0 := (Below.at0 hB1 hbl _).trans h0
          have g1 := (Below.at0 hB1 hbl _).trans h1
          have g2 := (Below.at0 hB1 hbl _).trans h2
          have g3 := (Below.at0 hB1 hbl _).trans h3
          have hown := hown.keep hB1
          have hq := hq.mono (Kr.of_below hB1 _)
          have hqw := hqw.mono (Kr.of_below hB1 _)
          have hb1 := hb.trans (hB1.mono (show w.heap.size + 2 ≤ wr.heap.size by omega))
          clear y0 y1 y2 y3 h0 h1 h2 h3 h4 hd1 hd2 hd3 hd4 hd5 hd6 hd7 z0 z1 z2 z3 z4 z5 z6 z7
          go_region_held3 (fun w' => w'.cell? ⟨w.heap.size, 0, none⟩ = some (.bool s3) ∧ w'.cell? ⟨w.heap.size, 0 + 1, none⟩ = some (.slice A3 n3 c3) ∧ w'.cell? ⟨w.heap.size, 0 + 2, none⟩ = some (.bool s4) ∧ w'.cell? ⟨w.heap.size, 0 + 3, none⟩ = some (.slice A4 n4 c4) ∧ w'.cell? ⟨b, o + k * 12, none⟩ = some (.bool s1) ∧ w'.cell? ⟨b, o + k * 12 + 1, none⟩ = some (.slice A1 n1 c1) ∧ w'.cell? ⟨b, o + k * 12 + 2, none⟩ = some (.bool s2) ∧ w'.cell? ⟨b, o + k * 12 + 3, none⟩ = some (.slice A2 n2 c2) ∧ w'.cell? ⟨wr.heap.size, 0, none⟩ = some (.int .i64 (m0 + e0)) ∧ w'.cell? ⟨wr.heap.size, 0 + 1, none⟩ = some (.int .i64 (m1 + e1)) ∧ w'.cell? ⟨wr.heap.size, 0 + 2, none⟩ = some (.int .i64 (m2 + e2)) ∧ w'.cell? ⟨wr.heap.size, 0 + 3, none⟩ = some (.int .i64 (m3 + e3)) ∧ w'.cell? ⟨wr.heap.size, 0 + 4, none⟩ = some (.int .i64 (m4 + e4)) ∧ w'.cell? ⟨wr.heap.size, 0 + 5, none⟩ = some (.int .i64 (m5 + e5)) ∧ w'.cell? ⟨wr.heap.size, 0 + 6, none⟩ = some (.int .i64 (m6 + e6)) ∧ w'.cell? ⟨wr.heap.size, 0 + 7, none⟩ = some (.int .i64 (m7 + e7)))
            ((repeat' apply And.intro) <;> first | (simp [*, go_sem, ↓IntWalk.iteOmega]; done) | (refine got_of ?_; simp [*, go_sem, ↓IntWalk.iteOmega]; done))
            (first | (go_at_call 68; refine (r2mul_ok _ (own (.slice vA k vc) ++ ex) s3 A3 n3 c3 s4 A4 n4 c4 _ s1 A1 n1 c1 s2 A2 n2 c2 _ (hqw.mono (Kr.of_below (by repeat first | with_reducible exact .refl .. | with_reducible assumption | refine .s ?_ ?_ | refine .m ?_ ?_ | refine .l ?_ ?_ | refine .d ?_ | refine .e ?_ | (simp <;> omega) | omega) _)) (hq.mono (Kr.of_below (by repeat first | with_reducible exact .refl .. | with_reducible assumption | refine .s ?_ ?_ | refine .m ?_ ?_ | refine .l ?_ ?_ | refine .d ?_ | refine .e ?_ | (simp <;> omega) | omega) _)) hq0.few hT.few (hq0.wee2 hT) (hexs hex (by simp; omega) (fun b hb => by have := (hvle b hb).2; simp; omega))).mono ?_; rintro e w' ⟨s5, A5, n5, c5, s6, A6, n6, c6, X2, D2, rfl, rfl, hres⟩) | (show (if Region.wanted { dst := _, op := Op.call { callee := Callee.builtin Builtin.append, args := _, argTypes := _ }, type := _, pos := _, after := _, guard := _ } _ = true then _ else _); refine step_append_elt tmE _ rfl _ _ 65 rfl Tryz.underlying65 (w.heap.size + 2) ex (.slice vA k vc) P rfl (hown.keep (by repeat first | with_reducible exact .refl .. | with_reducible assumption | refine .s ?_ ?_ | refine .m ?_ ?_ | refine .l ?_ ?_ | refine .d ?_ | refine .e ?_ | (simp <;> omega) | omega)) _ _ rfl (q * p[k].1, [m0 + e0, m1 + e1, m2 + e2, m3 + e3, m4 + e4, m5 + e5, m6 + e6, m7 + e7]) [.bool s5, .slice A5 n5 c5, .bool s6, .slice A6 n6 c6, .int .i64 (m0 + e0), .int .i64 (m1 + e1), .int .i64 (m2 + e2), .int .i64 (m3 + e3), .int .i64 (m4 + e4), .int .i64 (m5 + e5), .int .i64 (m6 + e6), .int .i64 (m7 + e7)] (cell_new _ _ _ _ (by simp)) (by intro hh; rcases List.mem_append.1 hh with hh | hh; (have := (hvle _ hh).2; omega); (have := hex _ hh; omega)) ⟨s5, A5, n5, c5, s6, A6, n6, c6, _, _, _, _, _, _, _, _, rfl, hres.mono (Kr.of_below (by repeat first | with_reducible exact .refl .. | with_reducible assumption | refine .s ?_ ?_ | refine .m ?_ ?_ | refine .l ?_ ?_ | refine .d ?_ | refine .e ?_ | (simp <;> omega) | omega) _), rfl⟩ (by rw [hlen]; omega) (by simp; omega) ?_; intro v' w1 hown1 hkr1 hbl1; have hbx1 := hbl1 _ _ (show Below (w.heap.size + 2) W1 _ from (by repeat first | with_reducible exact .refl .. | with_reducible assumption | refine .s ?_ ?_ | refine .m ?_ ?_ | refine .l ?_ ?_ | refine .d ?_ | refine .e ?_ | (simp <;> omega) | omega)) (Nat.le_refl _); have f1 := hkr1.cell (b := b) (by simp; omega) hbx; have f2 := hkr1.cell (b := w.heap.size) (by simp; omega) (by intro hh; rcases List.mem_append.1 hh with hh | hh; (have := (hvle _ hh).1; omega); (have := hex _ hh; omega)); have f3 := hkr1.cell (b := wr.heap.size) (by simp; omega) (by intro hh; rcases List.mem_append.1 hh with hh | hh; (have := (hvle _ hh).2; omega); (have := hex _ hh; omega))))
          all_goals (rename_i hHeldZ; clear hHeldZ)
          go_wp2_with fail
          go_roundw
          case rel => exact ⟨k + 1, by omega, by go_num, by rw [← HN.out]; exact hown1, hb1.trans hbx1⟩
          case measure => simp [intOf]; omega
      · obtain rfl : k = n := by omega
        rw [timesP_all (by have := HL.out; omega)] at hown
        go_wp2_with fail
        refine bodyPost_ret (v := .tuple #[.slice vA k vc, .int .i64 0]) (by simp [results, Tryz.results27, go_sem, ↓IntWalk.iteOmega]) rfl ?_
        exact RetPE.mk rfl hbw (RP.of_rl (hown.read (fun b hb => by have := hex b hb; omega)))

end Go.Proofs.YthhdleppkggepaaGreat

/-
  The walk of system.Normal: arguments that do not fit.
-/
namespace Go.Proofs.YthhdleppkggepaaGreat
open Go.RowKit Go.Deep
set_option maxRecDepth 100000

set_option maxHeartbeats 2000000 in
theorem normal_num (w : World) (ex : List Nat) (n : Int) (hn : n < 1 ∨ 4 < n) (A1 : Option Addr) (n1 c1 : Nat) (A2 : Option Addr) (n2 c2 : Nat) :
    Calls Tryz.prog 12 #[.int .i64 n, .slice A1 n1 c1, .slice A2 n2 c2] w (RetC w ex 0 [] [] 1) := by
  rcases hn with hn | hn
  · go_enter Tryz.func12, Tryz.ntmps12
    go_wp2_with fail
    refine bodyPost_ret (v := .tuple #[.agg #[.int .i64 0, .slice none 0 0, .slice none 0 0], .int .i64 1]) (by simp [results, Tryz.results12, go_sem, ↓IntWalk.iteOmega]) rfl ?_
    exact RetC.mk rfl (by repeat first | with_reducible exact .refl .. | with_reducible assumption | refine .s ?_ ?_ | refine .m ?_ ?_ | refine .l ?_ ?_ | refine .d ?_ | refine .e ?_ | (simp <;> omega) | omega) (RL.nil _ _ _ _) (RL.nil _ _ _ _)
  · have h1 : ¬ n < 1 := by omega
    go_enter Tryz.func12, Tryz.ntmps12
    go_wp2_with fail
    refine bodyPost_ret (v := .tuple #[.agg #[.int .i64 0, .slice none 0 0, .slice none 0 0], .int .i64 1]) (by simp [results, Tryz.results12, go_sem, ↓IntWalk.iteOmega]) rfl ?_
    exact RetC.mk rfl (by repeat first | with_reducible exact .refl .. | with_reducible assumption | refine .s ?_ ?_ | refine .m ?_ ?_ | refine .l ?_ ?_ | refine .d ?_ | refine .e ?_ | (simp <;> omega) | omega) (RL.nil _ _ _ _) (RL.nil _ _ _ _)

set_option maxHeartbeats 4000000 in
theorem normal_odd (w : World) (ex : List Nat) (n : Nat) (A1 : Option Addr) (n1 c1 : Nat) (eqs : List Pol) (A2 : Option Addr) (n2 c2 : Nat) (neqs : List Pol) (hx : RL poE w ex A1 n1 c1 eqs) (hy : RL poE w ex A2 n2 c2 neqs) (hn1 : 1 ≤ n) (hn4 : n ≤ 4)
    (hg1 : ∀ p ∈ eqs, GP p) (hg2 : ∀ p ∈ neqs, GP p) (hodd : (eqs.any (fun p => !withinB p n) || neqs.any (fun p => !withinB p n)) = true) (hl1 : n1 ≤ 100000) (hl2 : n2 ≤ 100000) :
    Calls Tryz.prog 12 #[.int .i64 n, .slice A1 n1 c1, .slice A2 n2 c2] w (RetC w ex 0 [] [] 1) := by
  have HX := Lib.hid hx
  have HY := Lib.hid hy
  have HO := Lib.hid hodd
  have eg : ∀ args w, (callFunc 43 args).run Tryz.prog w = .ok (.enter 43 args) w := enters_of Tryz.func43 (by kernel_rfl) rfl
  have hc1 := containsP_ok ((w.alloc (.cells #[.int .i64 n] 3)).alloc (.cells #[.int .i64 0, .slice none 0 0, .slice none 0 0] 28)) ex A1 n1 c1 eqs 43 #[.pointer (some ⟨w.heap.size, 0, none⟩)] _ eg (HX.out.mono (Kr.of_below (by repeat first | with_reducible exact .refl .. | with_reducible assumption | refine .s ?_ ?_ | refine .m ?_ ?_ | refine .l ?_ ?_ | refine .d ?_ | refine .e ?_ | (simp <;> omega) | omega) _)) (tells1 _ ex eqs w.heap.size n hg1 hn4 (by simp; omega) (by simp [go_sem, ↓IntWalk.iteOmega])) (by omega)
  have hc2 : ∀ X D, Calls Tryz.prog 45 #[.slice A2 n2 c2, .func (Fn.func 43) #[] #[.pointer (some ⟨w.heap.size, 0, none⟩)]] (((w.alloc (.cells #[.int .i64 n] 3)).alloc (.cells #[.int .i64 0, .slice none 0 0, .slice none 0 0] 28)).more X D) _ := fun X D =>
    containsP_ok (((w.alloc (.cells #[.int .i64 n] 3)).alloc (.cells #[.int .i64 0, .slice none 0 0, .slice none 0 0] 28)).more X D) ex A2 n2 c2 neqs 43 #[.pointer (some ⟨w.heap.size, 0, none⟩)] _ eg (HY.out.mono (Kr.of_below (by repeat first | with_reducible exact .refl .. | with_reducible assumption | refine .s ?_ ?_ | refine .m ?_ ?_ | refine .l ?_ ?_ | refine .d ?_ | refine .e ?_ | (simp <;> omega) | omega) _)) (tells1 _ ex neqs w.heap.size n hg2 hn4 (by simp; omega) (by simp [go_sem, ↓IntWalk.iteOmega])) (by omega)
  obtain ⟨b, hb⟩ : ∃ b : Bool, eqs.any (fun p => !withinB p n) = b := ⟨_, rfl⟩
  rw [hb] at hc1 hodd
  have HC1 := Lib.hid hc1
  clear hx hy hg1 hg2 hc1 eg hb
  cases b
  · rw [Bool.false_or] at hodd
    rw [hodd] at hc2
    have HC2 := Lib.hid hc2
    clear hc2 hodd HO
    go_enter Tryz.func12, Tryz.ntmps12
    go_wp2_with fail
    refine HC1.out.mono ?_; rintro e w1 ⟨X, D, rfl, rfl⟩
    go_wp2_with fail
    refine (HC2.out X D).mono ?_; rintro e w1 ⟨X2, D2, rfl, rfl⟩
    go_wp2_with fail
    refine bodyPost_ret (v := .tuple #[.agg #[.int .i64 0, .slice none 0 0, .slice none 0 0], .int .i64 1]) (by simp [results, Tryz.results12, go_sem, ↓IntWalk.iteOmega]) rfl ?_
    exact RetC.mk rfl (by repeat first | with_reducible exact .refl .. | with_reducible assumption | refine .s ?_ ?_ | refine .m ?_ ?_ | refine .l ?_ ?_ | refine .d ?_ | refine .e ?_ | (simp <;> omega) | omega) (RL.nil _ _ _ _) (RL.nil _ _ _ _)
  · clear hc2 hodd HO
    go_enter Tryz.func12, Tryz.ntmps12
    go_wp2_with fail
    refine HC1.out.mono ?_; rintro e w1 ⟨X, D, rfl, rfl⟩
    go_wp2_with fail
    refine bodyPost_ret (v := .tuple #[.agg #[.int .i64 0, .slice none 0 0, .slice none 0 0], .int .i64 1]) (by simp [results, Tryz.results12, go_sem, ↓IntWalk.iteOmega]) rfl ?_
    exact RetC.mk rfl (by repeat first | with_reducible exact .refl .. | with_reducible assumption | refine .s ?_ ?_ | refine .m ?_ ?_ | refine .l ?_ ?_ | refine .d ?_ | refine .e ?_ | (simp <;> omega) | omega) (RL.nil _ _ _ _) (RL.nil _ _ _ _)

end Go.Proofs.YthhdleppkggepaaGreat

/-
  The walks of the law's term, and of system.Core at the empty system.
-/
namespace Go.Proofs.YthhdleppkggepaaGreat
open Go.RowKit Go.Deep
set_option maxRecDepth 100000

theorem core_zero (w : World) (ex : List Nat) : Calls Tryz.prog 21 #[.agg #[.slice none 0 0, .slice none 0 0, .slice none 0 0, .int .i64 0]] w (RetC w ex 0 [] [] 320) := by
  go_enter Tryz.func21, Tryz.ntmps21
  go_wp2_with fail
  refine (valid_zero _).mono ?_; rintro e w1 ⟨X, D, rfl, rfl⟩
  go_wp2_with fail
  refine bodyPost_ret (v := .tuple #[.agg #[.int .i64 0, .slice none 0 0, .slice none 0 0], .int .i64 320]) (by simp [results, Tryz.results21, go_sem, ↓IntWalk.iteOmega]) rfl ?_
  exact RetC.mk rfl (by repeat first | with_reducible exact .refl .. | with_reducible assumption | refine .s ?_ ?_ | refine .m ?_ ?_ | refine .l ?_ ?_ | refine .d ?_ | refine .e ?_ | (simp <;> omega) | omega) (RL.nil _ _ _ _) (RL.nil _ _ _ _)

/-- The term c x^a y^b. -/
def termP (c : Int) (a b : Nat) : Pol := timesP (c : Rat) [(a : Int), (b : Int), 0, 0, 0, 0, 0, 0] (constP 1)
theorem exps_ab {a b : Nat} (ha : a ≤ 65535) (hb : b ≤ 65535) : Exps [(a : Int), (b : Int), 0, 0, 0, 0, 0, 0] := by
  intro k
  match k with
  | 0 => exact ⟨by show (0 : Int) ≤ a; omega, by show (a : Int) ≤ 65535; omega⟩
  | 1 => exact ⟨by show (0 : Int) ≤ b; omega, by show (b : Int) ≤ 65535; omega⟩
  | 2 | 3 | 4 | 5 | 6 | 7 => exact ⟨by show (0 : Int) ≤ 0; omega, by show (0 : Int) ≤ 65535; omega⟩
  | k + 8 => simp
theorem constP_one' : constP 1 = [(1, [0, 0, 0, 0, 0, 0, 0, 0])] := by unfold constP; rw [if_neg (by decide)]

set_option maxHeartbeats 1000000 in
theorem term_ok (w : World) (ex : List Nat) (c : Int) (a b : Nat) (hc1 : -65536 < c) (hc2 : c < 65536) (ha : a ≤ 65535) (hb : b ≤ 65535) (hex : ∀ b ∈ ex, b < w.heap.size) :
    Calls Tryz.prog 40 #[.int .i64 c, .int .i64 a, .int .i64 b] w (RetP w ex (termP c a b)) := by
  have hm := exps_ab ha hb
  have hty : Ty (c : Rat) := ⟨by show (c : Rat).num.natAbs < 65536; rw [Rat.num_intCast]; omega, by show (c : Rat).den < 65536; rw [Rat.den_intCast]; decide⟩
  have HM := Lib.hid hm
  have HT := Lib.hid hty
  have HP1 : Hid (PExps (constP 1)) := Lib.hid (by
    rw [constP_one']; intro t ht; simp only [List.mem_singleton] at ht; subst ht; exact exps_ab (a := 0) (b := 0) (by omega) (by omega))
  have HOk : Hid (MulOk [(a : Int), (b : Int), 0, 0, 0, 0, 0, 0] (constP 1)) := Lib.hid (by
    rw [constP_one']; intro t ht; simp only [List.mem_singleton] at ht; subst ht
    show Exps (addE _ [0, 0, 0, 0, 0, 0, 0, 0])
    rw [show ([0, 0, 0, 0, 0, 0, 0, 0] : List Int) = mono0 from rfl, addE_zero' rfl]; exact hm)
  have HTy : Hid (PTy (constP 1)) := Lib.hid (by
    rw [constP_one']; intro t ht; simp only [List.mem_singleton] at ht; subst ht; exact ⟨by decide, by decide⟩)
  have HLn : Hid ((constP 1).length ≤ 1000000000) := Lib.hid (by rw [constP_one']; decide)
  clear hm hty
  go_enter Tryz.func40, Tryz.ntmps40
  go_wp2_with fail
  refine (r2whole_ok _ ex c (by omega) (by omega) hex).mono ?_; rintro e w1 ⟨s3, A3, n3, c3, s4, A4, n4, c4, X, D, rfl, rfl, hq⟩
  go_wp2_with fail
  refine (r2whole_ok _ ex 1 (by omega) (by omega) (fun x hx => by have := hex x hx; simp; omega)).mono ?_; rintro e w2 ⟨s1, A1, n1, c1, s2, A2, n2, c2, X2, D2, rfl, rfl, hq2⟩
  go_wp2_with fail
  refine (r6constant_ok _ ex s1 A1 n1 c1 s2 A2 n2 c2 ((1 : Int) : Rat) (hq2.mono (Kr.of_below (by repeat first | with_reducible exact .refl .. | with_reducible assumption | refine .s ?_ ?_ | refine .m ?_ ?_ | refine .l ?_ ?_ | refine .d ?_ | refine .e ?_ | (simp <;> omega) | omega) _)) (fun x hx => by have := hex x hx; simp; omega)).mono ?_; rintro e w3 ⟨A5, n5, c5, X3, D3, rfl, rfl, hp⟩
  go_wp2_with fail
  refine (r6times_ok _ ex s3 A3 n3 c3 s4 A4 n4 c4 (c : Rat) a b 0 0 0 0 0 0 A5 n5 c5 (constP 1) (hq.mono (Kr.of_below (by repeat first | with_reducible exact .refl .. | with_reducible assumption | refine .s ?_ ?_ | refine .m ?_ ?_ | refine .l ?_ ?_ | refine .d ?_ | refine .e ?_ | (simp <;> omega) | omega) _)) (hp.mono (Kr.of_below (by repeat first | with_reducible exact .refl .. | with_reducible assumption | refine .s ?_ ?_ | refine .m ?_ ?_ | refine .l ?_ ?_ | refine .d ?_ | refine .e ?_ | (simp <;> omega) | omega) _)) HM.out HP1.out HOk.out HT.out HTy.out (by rw [hp.len]; exact HLn.out) (fun x hx => by have := hex x hx; simp; omega)).mono ?_; rintro e w4 ⟨A6, n6, c6, X4, D4, rfl, rfl, hres⟩
  go_wp2_with fail
  go_ret
  exact RetP.mk rfl (by repeat first | with_reducible exact .refl .. | with_reducible assumption | refine .s ?_ ?_ | refine .m ?_ ?_ | refine .l ?_ ?_ | refine .d ?_ | refine .e ?_ | (simp <;> omega) | omega) hres

end Go.Proofs.YthhdleppkggepaaGreat

/-
  The walks of the reference of package rational: sums.
-/
namespace Go.Proofs.YthhdleppkggepaaGreat
open Go.RowKit Go.Deep
set_option maxRecDepth 100000

set_option maxHeartbeats 20000000 in
theorem r2add_ok (w : World) (ex : List Nat) (s1 : Bool) (A1 : Option Addr) (n1 c1 : Nat) (s2 : Bool) (A2 : Option Addr) (n2 c2 : Nat) (a : Rat) (s3 : Bool) (A3 : Option Addr) (n3 c3 : Nat) (s4 : Bool) (A4 : Option Addr) (n4 c4 : Nat) (b : Rat)
    (hx : RQ w ex s1 A1 n1 c1 s2 A2 n2 c2 a) (hy : RQ w ex s3 A3 n3 c3 s4 A4 n4 c4 b) (ha : Few a) (hb : Few b) (hw : Wee (a.den * b.den)) (hex : ∀ b ∈ ex, b < w.heap.size) :
    Calls Tryz.prog 86 #[.agg #[.bool s1, .slice A1 n1 c1, .bool s2, .slice A2 n2 c2], .agg #[.bool s3, .slice A3 n3 c3, .bool s4, .slice A4 n4 c4]] w (RetQ w ex (a + b)) := by
  have hn1 : n1 ≤ 400000 := by rw [hx.num.len]; exact ha.1
  have hn2 : n2 ≤ 400000 := by rw [hx.den.len]; exact ha.2
  have hn3 : n3 ≤ 400000 := by rw [hy.num.len]; exact hb.1
  have hn4 : n4 ≤ 400000 := by rw [hy.den.len]; exact hb.2
  have HN1 : Hid (∀ m, m = wl (a.num * b.den) → m ≤ 1000000) := by
    rintro m rfl; have := wl_mul a.num b.den; have := ha.1; have := hb.2; omega
  have HN2 : Hid (∀ m, m = wl (b.num * a.den) → m ≤ 1000000) := by
    rintro m rfl; have := wl_mul b.num a.den; have := hb.1; have := ha.2; omega
  have HN : Hid (∀ m, m = wl (a.num * b.den + b.num * a.den) → m ≤ 1000000) := by
    rintro m rfl; have := wl_add (a.num * b.den) (b.num * a.den); have := wl_mul a.num b.den; have := wl_mul b.num a.den; have := ha.1; have := hb.2; have := hb.1; have := ha.2; omega
  have HD : Hid (∀ m, m = wl ((a.den : Int) * b.den) → m ≤ 1000000) := by
    rintro m rfl; have := wl_mul (a.den : Int) b.den; have := ha.2; have := hb.2; omega
  have hw' : Wee ((a.den : Int) * (b.den : Int)).natAbs := by rw [Int.natAbs_mul, Int.natAbs_natCast, Int.natAbs_natCast]; exact hw
  go_enter Tryz.func86, Tryz.ntmps86
  go_wp2_with fail
  go_region_held3 (fun w' => w'.cell? ⟨w.heap.size, 0, none⟩ = some (.bool s1) ∧ w'.cell? ⟨w.heap.size, 1, none⟩ = some (.slice A1 n1 c1) ∧ w'.cell? ⟨w.heap.size, 2, none⟩ = some (.bool s2) ∧ w'.cell? ⟨w.heap.size, 3, none⟩ = some (.slice A2 n2 c2) ∧ w'.cell? ⟨w.heap.size + 1, 0, none⟩ = some (.bool s3) ∧ w'.cell? ⟨w.heap.size + 1, 1, none⟩ = some (.slice A3 n3 c3) ∧ w'.cell? ⟨w.heap.size + 1, 2, none⟩ = some (.bool s4) ∧ w'.cell? ⟨w.heap.size + 1, 3, none⟩ = some (.slice A4 n4 c4) ∧ w'.cell? ⟨w.heap.size + 2, 0, none⟩ = some (World.got w' (w.heap.size + 2) (0)) ∧ w'.cell? ⟨w.heap.size + 2, 1, none⟩ = some (World.got w' (w.heap.size + 2) (1)) ∧ w'.cell? ⟨w.heap.size + 2, 2, none⟩ = some (World.got w' (w.heap.size + 2) (2)) ∧ w'.cell? ⟨w.heap.size + 2, 3, none⟩ = some (World.got w' (w.heap.size + 2) (3)) ∧ w'.frozen? ⟨w.heap.size + 2, 0, none⟩ = false ∧ w'.frozen? ⟨w.heap.size + 2, 1, none⟩ = false ∧ w'.frozen? ⟨w.heap.size + 2, 2, none⟩ = false ∧ w'.frozen? ⟨w.heap.size + 2, 3, none⟩ = false)
    ((repeat' apply And.intro) <;> first | (simp [*, go_sem, ↓IntWalk.iteOmega]; done) | (refine got_of ?_; simp [*, go_sem, ↓IntWalk.iteOmega]; done))
    (first | (go_at_call_of 64 A3; refine (r1imul_ok _ ([w.heap.size + 2] ++ ex) _ _ _ _ _ _ _ _ _ _ (hy.num.mono (Kr.fresh (l := [w.heap.size + 2]) (by repeat first | with_reducible exact .refl .. | with_reducible assumption | refine .s ?_ ?_ | refine .m ?_ ?_ | refine .l ?_ ?_ | refine .d ?_ | refine .e ?_ | (simp <;> omega) | omega) (by simp))) (hx.den.mono (Kr.fresh (l := [w.heap.size + 2]) (by repeat first | with_reducible exact .refl .. | with_reducible assumption | refine .s ?_ ?_ | refine .m ?_ ?_ | refine .l ?_ ?_ | refine .d ?_ | refine .e ?_ | (simp <;> omega) | omega) (by simp))) (by omega) (by omega) (hexs hex (by first | (simp; done) | (simp; omega) | omega) (by first | (simp; done) | (simp; omega) | omega))).mono ?_; rintro e w' ⟨sn2, An2, mn2, cn2, XN2, DN2, rfl, rfl, hN2⟩) | (go_at_call_of 64 A1; refine (r1imul_ok _ ([w.heap.size + 2] ++ ex) _ _ _ _ _ _ _ _ _ _ (hx.num.mono (Kr.fresh (l := [w.heap.size + 2]) (by repeat first | with_reducible exact .refl .. | with_reducible assumption | refine .s ?_ ?_ | refine .m ?_ ?_ | refine .l ?_ ?_ | refine .d ?_ | refine .e ?_ | (simp <;> omega) | omega) (by simp))) (hy.den.mono (Kr.fresh (l := [w.heap.size + 2]) (by repeat first | with_reducible exact .refl .. | with_reducible assumption | refine .s ?_ ?_ | refine .m ?_ ?_ | refine .l ?_ ?_ | refine .d ?_ | refine .e ?_ | (simp <;> omega) | omega) (by simp))) (by omega) (by omega) (hexs hex (by first | (simp; done) | (simp; omega) | omega) (by first | (simp; done) | (simp; omega) | omega))).mono ?_; rintro e w' ⟨sn, An, mn, cn, XN, DN, rfl, rfl, hN1⟩) | (go_at_call 63; refine (r1iadd_ok _ ([w.heap.size + 2] ++ ex) _ _ _ _ _ _ _ _ _ _ (hN1.mono (by repeat (first | (with_reducible exact Kr.refl _ _) | (with_reducible assumption) | refine Kr.setCell ?_ _ (by simp) | refine Kr.more ?_ _ _ | refine Kr.alloc_ ?_ _ | refine Kr.drew ?_ | refine Kr.drewN ?_ _))) (hN2.mono (by repeat (first | (with_reducible exact Kr.refl _ _) | (with_reducible assumption) | refine Kr.setCell ?_ _ (by simp) | refine Kr.more ?_ _ _ | refine Kr.alloc_ ?_ _ | refine Kr.drew ?_ | refine Kr.drewN ?_ _))) (by have := HN1.out _ hN1.len; omega) (by have := HN2.out _ hN2.len; omega) (hexs hex (by first | (simp; done) | (simp; omega) | omega) (by first | (simp; done) | (simp; omega) | omega))).mono ?_; rintro e w' ⟨sn, An, mn, cn, XN, DN, rfl, rfl, hN⟩) | (go_at_call 64; refine (r1imul_ok _ ([w.heap.size + 2] ++ ex) _ _ _ _ _ _ _ _ _ _ (hx.den.mono (Kr.fresh (l := [w.heap.size + 2]) (by repeat first | with_reducible exact .refl .. | with_reducible assumption | refine .s ?_ ?_ | refine .m ?_ ?_ | refine .l ?_ ?_ | refine .d ?_ | refine .e ?_ | (simp <;> omega) | omega) (by simp))) (hy.den.mono (Kr.fresh (l := [w.heap.size + 2]) (by repeat first | with_reducible exact .refl .. | with_reducible assumption | refine .s ?_ ?_ | refine .m ?_ ?_ | refine .l ?_ ?_ | refine .d ?_ | refine .e ?_ | (simp <;> omega) | omega) (by simp))) (by omega) (by omega) (hexs hex (by first | (simp; done) | (simp; omega) | omega) (by first | (simp; done) | (simp; omega) | omega))).mono ?_; rintro e w' ⟨sd, Ad, md, cd, XD, DD, rfl, rfl, hD⟩) | (go_at_call 65; refine (r2lowest_ok _ ([w.heap.size + 2] ++ ex) _ _ _ _ _ _ _ _ _ _ (hN.mono (by repeat (first | (with_reducible exact Kr.refl _ _) | (with_reducible assumption) | refine Kr.setCell ?_ _ (by simp) | refine Kr.more ?_ _ _ | refine Kr.alloc_ ?_ _ | refine Kr.drew ?_ | refine Kr.drewN ?_ _))) (hD.mono (by repeat (first | (with_reducible exact Kr.refl _ _) | (with_reducible assumption) | refine Kr.setCell ?_ _ (by simp) | refine Kr.more ?_ _ _ | refine Kr.alloc_ ?_ _ | refine Kr.drew ?_ | refine Kr.drewN ?_ _))) (den_mul_ne a b) hw' (HN.out _ hN.len) (HD.out _ hD.len) (hexs hex (by first | (simp; done) | (simp; omega) | omega) (by first | (simp; done) | (simp; omega) | omega))).mono ?_; rintro e w' ⟨t1, B1, m1, d1, t2, B2, m2, d2, X3, D3, rfl, rfl, h3⟩))
  all_goals
    go_wp2_with fail
    refine bodyPost_ret (v := .agg #[.bool t1, .slice B1 m1 d1, .bool t2, .slice B2 m2 d2]) (by simp [results, Tryz.results86, go_sem, ↓IntWalk.iteOmega]) rfl (RetQ.mk rfl (by repeat first | with_reducible exact .refl .. | with_reducible assumption | refine .s ?_ ?_ | refine .m ?_ ?_ | refine .l ?_ ?_ | refine .d ?_ | refine .e ?_ | (simp <;> omega) | omega) ?_ ?_)
    · rw [← rat_add_law]; exact h3.num.mono (Kr.down (by repeat (first | (with_reducible exact Kr.refl _ _) | (with_reducible assumption) | refine Kr.setCell ?_ _ (by simp) | refine Kr.more ?_ _ _ | refine Kr.alloc_ ?_ _ | refine Kr.drew ?_ | refine Kr.drewN ?_ _)) (by first | (intro b hb; simp [hb]; done) | (intro b hb; exact hb) | (intro b hb; simp at hb ⊢; grind)))
    · rw [← rat_add_law]; exact h3.den.mono (Kr.down (by repeat (first | (with_reducible exact Kr.refl _ _) | (with_reducible assumption) | refine Kr.setCell ?_ _ (by simp) | refine Kr.more ?_ _ _ | refine Kr.alloc_ ?_ _ | refine Kr.drew ?_ | refine Kr.drewN ?_ _)) (by first | (intro b hb; simp [hb]; done) | (intro b hb; exact hb) | (intro b hb; simp at hb ⊢; grind)))


end Go.Proofs.YthhdleppkggepaaGreat
