/-
  The walks of the reference of package polynomial: equality of terms and polynomials.
-/
import Derived.Test.YthhdleppkggepaaGreatSb07
import Derived.Test.YthhdleppkggepaaGreatSb19
import Derived.ArgAppend
import Derived.Test.YthhdleppkggepaaGreatSm01

set_option linter.unusedSimpArgs false
set_option linter.unusedVariables false
set_option linter.unusedSectionVars false

namespace Go.Proofs.YthhdleppkggepaaGreat
open Go.RowKit Go.Deep
set_option maxRecDepth 100000

set_option maxHeartbeats 1000000 in
theorem r6sameterm_ok (w : World) (ex : List Nat) (s1 : Bool) (A1 : Option Addr) (n1 c1 : Nat) (s2 : Bool) (A2 : Option Addr) (n2 c2 : Nat) (s3 : Bool) (A3 : Option Addr) (n3 c3 : Nat) (s4 : Bool) (A4 : Option Addr) (n4 c4 : Nat) (a b : Rat) (e0 e1 e2 e3 e4 e5 e6 e7 f0 f1 f2 f3 f4 f5 f6 f7 : Int) (hx : RQ w ex s1 A1 n1 c1 s2 A2 n2 c2 a) (hy : RQ w ex s3 A3 n3 c3 s4 A4 n4 c4 b) (ha : Ty a) :
    Calls Tryz.prog 78 #[.agg #[.bool s1, .slice A1 n1 c1, .bool s2, .slice A2 n2 c2, .int .i64 e0, .int .i64 e1, .int .i64 e2, .int .i64 e3, .int .i64 e4, .int .i64 e5, .int .i64 e6, .int .i64 e7], .agg #[.bool s3, .slice A3 n3 c3, .bool s4, .slice A4 n4 c4, .int .i64 f0, .int .i64 f1, .int .i64 f2, .int .i64 f3, .int .i64 f4, .int .i64 f5, .int .i64 f6, .int .i64 f7]] w (RetV w (.bool (decide ((a, [e0, e1, e2, e3, e4, e5, e6, e7]) = (b, [f0, f1, f2, f3, f4, f5, f6, f7]))))) := by
  have hn1 : n1 ≤ 1000000000 := by rw [hx.num.len]; have := ha.num; omega
  have hn2 : n2 ≤ 1000000000 := by rw [hx.den.len]; have := ha.den; omega
  have HQ : ∀ W, (Op.equalIn 10000 68 (.agg #[.int .i64 e0, .int .i64 e1, .int .i64 e2, .int .i64 e3, .int .i64 e4, .int .i64 e5, .int .i64 e6, .int .i64 e7]) (.agg #[.int .i64 f0, .int .i64 f1, .int .i64 f2, .int .i64 f3, .int .i64 f4, .int .i64 f5, .int .i64 f6, .int .i64 f7])).run Tryz.prog W = .ok (decide ([e0, e1, e2, e3, e4, e5, e6, e7] = [f0, f1, f2, f3, f4, f5, f6, f7])) W := fun W => eql8 W e0 e1 e2 e3 e4 e5 e6 e7 f0 f1 f2 f3 f4 f5 f6 f7
  by_cases hm : [e0, e1, e2, e3, e4, e5, e6, e7] = [f0, f1, f2, f3, f4, f5, f6, f7]
  · have hd : decide ([e0, e1, e2, e3, e4, e5, e6, e7] = [f0, f1, f2, f3, f4, f5, f6, f7]) = true := decide_eq_true hm
    have HD : Hid (decide ((a, [e0, e1, e2, e3, e4, e5, e6, e7]) = (b, [f0, f1, f2, f3, f4, f5, f6, f7])) = decide (a = b)) := Lib.hid (by
      rw [decide_eq_decide, Prod.mk.injEq]; exact ⟨fun h => h.1, fun h => ⟨h, hm⟩⟩)
    rw [hd] at HQ
    clear hm hd
    go_enter Tryz.func78, Tryz.ntmps78
    go_wp2_with fail
    refine (r2same_ok _ ex s1 A1 n1 c1 s2 A2 n2 c2 a s3 A3 n3 c3 s4 A4 n4 c4 b (hx.mono (Kr.of_below (by repeat first | with_reducible exact .refl .. | with_reducible assumption | refine .s ?_ ?_ | refine .m ?_ ?_ | refine .l ?_ ?_ | refine .d ?_ | refine .e ?_ | (simp <;> omega) | omega) _)) (hy.mono (Kr.of_below (by repeat first | with_reducible exact .refl .. | with_reducible assumption | refine .s ?_ ?_ | refine .m ?_ ?_ | refine .l ?_ ?_ | refine .d ?_ | refine .e ?_ | (simp <;> omega) | omega) _)) hn1 hn2).mono ?_; rintro e w1 ⟨X, D, rfl, rfl⟩
    go_wp2_with fail
    go_ret
    rw [HD.out]
    exact RetV.mk rfl (by repeat first | with_reducible exact .refl .. | with_reducible assumption | refine .s ?_ ?_ | refine .m ?_ ?_ | refine .l ?_ ?_ | refine .d ?_ | refine .e ?_ | (simp <;> omega) | omega)
  · have hd : decide ([e0, e1, e2, e3, e4, e5, e6, e7] = [f0, f1, f2, f3, f4, f5, f6, f7]) = false := decide_eq_false hm
    have HD : Hid (decide ((a, [e0, e1, e2, e3, e4, e5, e6, e7]) = (b, [f0, f1, f2, f3, f4, f5, f6, f7])) = false) := Lib.hid (decide_eq_false (by rw [Prod.mk.injEq]; exact fun h => hm h.2))
    rw [hd] at HQ
    clear hm hd
    go_enter Tryz.func78, Tryz.ntmps78
    go_wp2_with fail
    go_ret
    rw [HD.out]
    exact RetV.mk rfl (by repeat first | with_reducible exact .refl .. | with_reducible assumption | refine .s ?_ ?_ | refine .m ?_ ?_ | refine .l ?_ ?_ | refine .d ?_ | refine .e ?_ | (simp <;> omega) | omega)

theorem drop_eq_iff {α : Type} [DecidableEq α] {p q : List α} {k : Nat} (hp : k < p.length) (hq : k < q.length) : (p.drop k = q.drop k) ↔ (p[k] = q[k] ∧ p.drop (k + 1) = q.drop (k + 1)) := by
  rw [List.drop_eq_getElem_cons hp, List.drop_eq_getElem_cons hq, List.cons.injEq]

set_option maxHeartbeats 2000000 in
theorem r6same_ok (w : World) (ex : List Nat) (B1 : Option Addr) (np cp : Nat) (p : List (Rat × List Int)) (B2 : Option Addr) (nq cq : Nat) (q : List (Rat × List Int)) (hx : RP w ex B1 np cp p) (hy : RP w ex B2 nq cq q)
    (htp : PTy p) (hnp : np ≤ 1000000000) (hnq : nq ≤ 1000000000) :
    Calls Tryz.prog 36 #[.slice B1 np cp, .slice B2 nq cq] w (RetV w (.bool (decide (p = q)))) := by
  have HL1 := Lib.hid hx.len
  have HL2 := Lib.hid hy.len
  have hcap1 := hx.cap
  have hcap2 := hy.cap
  have HT1 := Lib.hid htp
  clear htp
  by_cases hnn : np = nq
  · subst hnn
    go_enter Tryz.func36, Tryz.ntmps36
    go_wp2_with fail
    go_loopw [5] (fun i wr => ∃ k : Nat, k ≤ np ∧ i = .int .i64 k ∧ Hid (decide (p.drop k = q.drop k) = decide (p = q)) ∧ Below w.heap.size w wr) (fun i _ => np - (intOf i).toNat)
    case atStart => exact ⟨0, Nat.zero_le _, rfl, Lib.hid rfl, (by repeat first | with_reducible exact .refl .. | with_reducible assumption | refine .s ?_ ?_ | refine .m ?_ ?_ | refine .l ?_ ?_ | refine .d ?_ | refine .e ?_ | (simp <;> omega) | omega)⟩
    case round =>
      obtain ⟨k, hk, rfl, HC, hb⟩ := hrel
      have hsz := hb.size
      have hxw := hx.mono (Kr.of_below hb ex)
      have hyw := hy.mono (Kr.of_below hb ex)
      by_cases hk1 : k < np
      · obtain ⟨b, o, rfl, hbx, hbl, ht⟩ := hxw.at_ (by omega)
        obtain ⟨b', o', rfl, hbx', hbl', ht'⟩ := hyw.at_ (by omega)
        have hkp : k < p.length := by have := HL1.out; omega
        have hkq : k < q.length := by have := HL2.out; omega
        obtain ⟨s1, A1, n1, c1, s2, A2, n2, c2, e0, e1, e2, e3, e4, e5, e6, e7, h0, h1, h2, h3, h4, h5, h6, h7, h8, h9, h10, h11, hq, hm⟩ := ht k hkp
        have hd1 : wr.cell? ⟨b, o + k * 12 + 4 + 1, none⟩ = some (.int .i64 e1) := h5
        have hd2 : wr.cell? ⟨b, o + k * 12 + 4 + 2, none⟩ = some (.int .i64 e2) := h6
        have hd3 : wr.cell? ⟨b, o + k * 12 + 4 + 3, none⟩ = some (.int .i64 e3) := h7
        have hd4 : wr.cell? ⟨b, o + k * 12 + 4 + 4, none⟩ = some (.int .i64 e4) := h8
        have hd5 : wr.cell? ⟨b, o + k * 12 + 4 + 5, none⟩ = some (.int .i64 e5) := h9
        have hd6 : wr.cell? ⟨b, o + k * 12 + 4 + 6, none⟩ = some (.int .i64 e6) := h10
        have hd7 : wr.cell? ⟨b, o + k * 12 + 4 + 7, none⟩ = some (.int .i64 e7) := h11
        obtain ⟨s3, A3, n3, c3, s4, A4, n4, c4, f0, f1, f2, f3, f4, f5, f6, f7, g0, g1, g2, g3, g4, g5, g6, g7, g8, g9, g10, g11, gq, gm⟩ := ht' k hkq
        have gd1 : wr.cell? ⟨b', o' + k * 12 + 4 + 1, none⟩ = some (.int .i64 f1) := g5
        have gd2 : wr.cell? ⟨b', o' + k * 12 + 4 + 2, none⟩ = some (.int .i64 f2) := g6
        have gd3 : wr.cell? ⟨b', o' + k * 12 + 4 + 3, none⟩ = some (.int .i64 f3) := g7
        have gd4 : wr.cell? ⟨b', o' + k * 12 + 4 + 4, none⟩ = some (.int .i64 f4) := g8
        have gd5 : wr.cell? ⟨b', o' + k * 12 + 4 + 5, none⟩ = some (.int .i64 f5) := g9
        have gd6 : wr.cell? ⟨b', o' + k * 12 + 4 + 6, none⟩ = some (.int .i64 f6) := g10
        have gd7 : wr.cell? ⟨b', o' + k * 12 + 4 + 7, none⟩ = some (.int .i64 f7) := g11
        clear ht ht'
        have hii : (k : Int) < (np : Int) := by omega
        have hT1 : Ty p[k].1 := HT1.out _ (List.getElem_mem hkp)
        have hst := drop_eq_iff hkp hkq
        have he1 : p[k] = (p[k].1, [e0, e1, e2, e3, e4, e5, e6, e7]) := by rw [← hm]
        have he2 : q[k] = (q[k].1, [f0, f1, f2, f3, f4, f5, f6, f7]) := by rw [← gm]
        obtain ⟨x, hx1⟩ : ∃ x, p[k].1 = x := ⟨_, rfl⟩
        obtain ⟨y, hy1⟩ : ∃ y, q[k].1 = y := ⟨_, rfl⟩
        rw [hx1] at he1 hq hT1
        rw [hy1] at he2 gq
        rw [he1, he2] at hst
        by_cases hd : (x, [e0, e1, e2, e3, e4, e5, e6, e7]) = (y, [f0, f1, f2, f3, f4, f5, f6, f7])
        · have HD := Lib.hid (decide_eq_true hd)
          have HS : Hid (decide (p.drop (k + 1) = q.drop (k + 1)) = decide (p = q)) := Lib.hid (by
            rw [← HC.out, decide_eq_decide, hst]; exact ⟨fun h => ⟨hd, h⟩, fun h => h.2⟩)
          clear hst he1 he2 hx1 hy1 hm gm hd
          go_wp2_with fail
          go_region_held3 (fun w' => w'.cell? ⟨b, o + k * 12, none⟩ = some (.bool s1) ∧ w'.cell? ⟨b, o + k * 12 + 1, none⟩ = some (.slice A1 n1 c1) ∧ w'.cell? ⟨b, o + k * 12 + 2, none⟩ = some (.bool s2) ∧ w'.cell? ⟨b, o + k * 12 + 3, none⟩ = some (.slice A2 n2 c2) ∧ w'.cell? ⟨b, o + k * 12 + 4, none⟩ = some (.int .i64 e0) ∧ w'.cell? ⟨b, o + k * 12 + 5, none⟩ = some (.int .i64 e1) ∧ w'.cell? ⟨b, o + k * 12 + 6, none⟩ = some (.int .i64 e2) ∧ w'.cell? ⟨b, o + k * 12 + 7, none⟩ = some (.int .i64 e3) ∧ w'.cell? ⟨b, o + k * 12 + 8, none⟩ = some (.int .i64 e4) ∧ w'.cell? ⟨b, o + k * 12 + 9, none⟩ = some (.int .i64 e5) ∧ w'.cell? ⟨b, o + k * 12 + 10, none⟩ = some (.int .i64 e6) ∧ w'.cell? ⟨b, o + k * 12 + 11, none⟩ = some (.int .i64 e7) ∧ w'.cell? ⟨b', o' + k * 12, none⟩ = some (.bool s3) ∧ w'.cell? ⟨b', o' + k * 12 + 1, none⟩ = some (.slice A3 n3 c3) ∧ w'.cell? ⟨b', o' + k * 12 + 2, none⟩ = some (.bool s4) ∧ w'.cell? ⟨b', o' + k * 12 + 3, none⟩ = some (.slice A4 n4 c4) ∧ w'.cell? ⟨b', o' + k * 12 + 4, none⟩ = some (.int .i64 f0) ∧ w'.cell? ⟨b', o' + k * 12 + 5, none⟩ = some (.int .i64 f1) ∧ w'.cell? ⟨b', o' + k * 12 + 6, none⟩ = some (.int .i64 f2) ∧ w'.cell? ⟨b', o' + k * 12 + 7, none⟩ = some (.int .i64 f3) ∧ w'.cell? ⟨b', o' + k * 12 + 8, none⟩ = some (.int .i64 f4) ∧ w'.cell? ⟨b', o' + k * 12 + 9, none⟩ = some (.int .i64 f5) ∧ w'.cell? ⟨b', o' + k * 12 + 10, none⟩ = some (.int .i64 f6) ∧ w'.cell? ⟨b', o' + k * 12 + 11, none⟩ = some (.int .i64 f7))
            ((repeat' apply And.intro) <;> first | (simp [*, go_sem, ↓IntWalk.iteOmega]; done) | (refine got_of ?_; simp [*, go_sem, ↓IntWalk.iteOmega]; done))
            (first | (go_at_call 78; refine (r6sameterm_ok _ ex s1 A1 n1 c1 s2 A2 n2 c2 s3 A3 n3 c3 s4 A4 n4 c4 x y e0 e1 e2 e3 e4 e5 e6 e7 f0 f1 f2 f3 f4 f5 f6 f7 (hq.mono (Kr.of_below (by repeat first | with_reducible exact .refl .. | with_reducible assumption | refine .s ?_ ?_ | refine .m ?_ ?_ | refine .l ?_ ?_ | refine .d ?_ | refine .e ?_ | (simp <;> omega) | omega) _)) (gq.mono (Kr.of_below (by repeat first | with_reducible exact .refl .. | with_reducible assumption | refine .s ?_ ?_ | refine .m ?_ ?_ | refine .l ?_ ?_ | refine .d ?_ | refine .e ?_ | (simp <;> omega) | omega) _)) hT1).mono ?_; rintro e w1 ⟨X, D, rfl, rfl⟩; rw [HD.out]))
          all_goals (rename_i hHeldZ; clear hHeldZ)
          all_goals
            go_wp2_with fail
            go_roundw
            case rel => exact ⟨k + 1, by omega, by go_num, HS, (by repeat first | with_reducible exact .refl .. | with_reducible assumption | refine .s ?_ ?_ | refine .m ?_ ?_ | refine .l ?_ ?_ | refine .d ?_ | refine .e ?_ | (simp <;> omega) | omega)⟩
            case measure => simp [intOf]; omega
        · have HD := Lib.hid (decide_eq_false hd)
          have HS : Hid (decide (p = q) = false) := Lib.hid (by
            rw [← HC.out]; exact decide_eq_false fun h => hd (hst.1 h).1)
          clear hst he1 he2 hx1 hy1 hm gm hd
          go_wp2_with fail
          go_region_held3 (fun w' => w'.cell? ⟨b, o + k * 12, none⟩ = some (.bool s1) ∧ w'.cell? ⟨b, o + k * 12 + 1, none⟩ = some (.slice A1 n1 c1) ∧ w'.cell? ⟨b, o + k * 12 + 2, none⟩ = some (.bool s2) ∧ w'.cell? ⟨b, o + k * 12 + 3, none⟩ = some (.slice A2 n2 c2) ∧ w'.cell? ⟨b, o + k * 12 + 4, none⟩ = some (.int .i64 e0) ∧ w'.cell? ⟨b, o + k * 12 + 5, none⟩ = some (.int .i64 e1) ∧ w'.cell? ⟨b, o + k * 12 + 6, none⟩ = some (.int .i64 e2) ∧ w'.cell? ⟨b, o + k * 12 + 7, none⟩ = some (.int .i64 e3) ∧ w'.cell? ⟨b, o + k * 12 + 8, none⟩ = some (.int .i64 e4) ∧ w'.cell? ⟨b, o + k * 12 + 9, none⟩ = some (.int .i64 e5) ∧ w'.cell? ⟨b, o + k * 12 + 10, none⟩ = some (.int .i64 e6) ∧ w'.cell? ⟨b, o + k * 12 + 11, none⟩ = some (.int .i64 e7) ∧ w'.cell? ⟨b', o' + k * 12, none⟩ = some (.bool s3) ∧ w'.cell? ⟨b', o' + k * 12 + 1, none⟩ = some (.slice A3 n3 c3) ∧ w'.cell? ⟨b', o' + k * 12 + 2, none⟩ = some (.bool s4) ∧ w'.cell? ⟨b', o' + k * 12 + 3, none⟩ = some (.slice A4 n4 c4) ∧ w'.cell? ⟨b', o' + k * 12 + 4, none⟩ = some (.int .i64 f0) ∧ w'.cell? ⟨b', o' + k * 12 + 5, none⟩ = some (.int .i64 f1) ∧ w'.cell? ⟨b', o' + k * 12 + 6, none⟩ = some (.int .i64 f2) ∧ w'.cell? ⟨b', o' + k * 12 + 7, none⟩ = some (.int .i64 f3) ∧ w'.cell? ⟨b', o' + k * 12 + 8, none⟩ = some (.int .i64 f4) ∧ w'.cell? ⟨b', o' + k * 12 + 9, none⟩ = some (.int .i64 f5) ∧ w'.cell? ⟨b', o' + k * 12 + 10, none⟩ = some (.int .i64 f6) ∧ w'.cell? ⟨b', o' + k * 12 + 11, none⟩ = some (.int .i64 f7))
            ((repeat' apply And.intro) <;> first | (simp [*, go_sem, ↓IntWalk.iteOmega]; done) | (refine got_of ?_; simp [*, go_sem, ↓IntWalk.iteOmega]; done))
            (first | (go_at_call 78; refine (r6sameterm_ok _ ex s1 A1 n1 c1 s2 A2 n2 c2 s3 A3 n3 c3 s4 A4 n4 c4 x y e0 e1 e2 e3 e4 e5 e6 e7 f0 f1 f2 f3 f4 f5 f6 f7 (hq.mono (Kr.of_below (by repeat first | with_reducible exact .refl .. | with_reducible assumption | refine .s ?_ ?_ | refine .m ?_ ?_ | refine .l ?_ ?_ | refine .d ?_ | refine .e ?_ | (simp <;> omega) | omega) _)) (gq.mono (Kr.of_below (by repeat first | with_reducible exact .refl .. | with_reducible assumption | refine .s ?_ ?_ | refine .m ?_ ?_ | refine .l ?_ ?_ | refine .d ?_ | refine .e ?_ | (simp <;> omega) | omega) _)) hT1).mono ?_; rintro e w1 ⟨X, D, rfl, rfl⟩; rw [HD.out]))
          all_goals (rename_i hHeldZ; clear hHeldZ)
          all_goals
            go_wp2_with fail
            go_ret
            rw [HS.out]
            exact RetV.mk rfl (by repeat first | with_reducible exact .refl .. | with_reducible assumption | refine .s ?_ ?_ | refine .m ?_ ?_ | refine .l ?_ ?_ | refine .d ?_ | refine .e ?_ | (simp <;> omega) | omega)
      · obtain rfl : np = k := by omega
        have HE : Hid (decide (p = q) = true) := Lib.hid (by
          rw [← HC.out, List.drop_of_length_le (by rw [← HL1.out]; exact Nat.le_refl _), List.drop_of_length_le (by rw [← HL2.out]; exact Nat.le_refl _)]; rfl)
        go_wp2_with fail
        go_ret
        rw [HE.out]
        exact RetV.mk rfl (by repeat first | with_reducible exact .refl .. | with_reducible assumption | refine .s ?_ ?_ | refine .m ?_ ?_ | refine .l ?_ ?_ | refine .d ?_ | refine .e ?_ | (simp <;> omega) | omega)
  · have hne : ((np : Int) == (nq : Int)) = false := by simp; omega
    have HE : Hid (decide (p = q) = false) := Lib.hid (decide_eq_false (by rintro rfl; exact hnn (HL1.out.trans HL2.out.symm)))
    go_enter Tryz.func36, Tryz.ntmps36
    go_wp2_with fail
    go_ret
    rw [HE.out]
    exact RetV.mk rfl (by repeat first | with_reducible exact .refl .. | with_reducible assumption | refine .s ?_ ?_ | refine .m ?_ ?_ | refine .l ?_ ?_ | refine .d ?_ | refine .e ?_ | (simp <;> omega) | omega)

end Go.Proofs.YthhdleppkggepaaGreat

/-
  Append where the first slice is full, so that no old block turns; inserting into a sorted list.
-/
namespace Go.Proofs.YthhdleppkggepaaGreat
open Go.RowKit

section
variable {α : Type} (E : Elt α) (w : World)
theorem run_append_full (t ty : TypeId) (ht : Tryz.prog.underlying t = some (.slice E.ty)) (ex : List Nat) (b f n : Nat) (l : List α) (hr : RL E w ex (some ⟨b, f, none⟩) n n l)
    (A2 : Option Addr) (m c : Nat) (l2 : List α) (hr2 : RL E w ex A2 m c l2) (hn : n + m ≤ 100000000000) (hex : ∀ b ∈ ex, b < w.heap.size) :
    ∃ b' f' c' w', (Builtin.append_ #[t, t] ty #[.slice (some ⟨b, f, none⟩) n n, .slice A2 m c]).run Tryz.prog w = .ok (.slice (some ⟨b', f', none⟩) (n + m) c') w' ∧ RL E w' ex (some ⟨b', f', none⟩) (n + m) c' (l ++ l2) ∧ Below w.heap.size w w' := by
  obtain ⟨i, z, i1, i2, i3, i4, i5⟩ := E.info
  have hf := E.few
  have hpos := E.pos
  have hln := hr.len
  have hlm := hr2.len
  rcases Nat.eq_zero_or_pos m with h0 | h0
  · subst h0
    have hl2 : l2 = [] := List.eq_nil_of_length_eq_zero hlm.symm
    subst hl2
    refine ⟨b, f, n, w, ?_, by rw [List.append_nil]; exact hr, Below.refl _ _⟩
    cases A2 with
    | none => simp [Builtin.append_, run_underlying ht, sizeOf, typeInfo, i1, Builtin.lenOf, Builtin.firstCells, storeCells]
    | some ad => exact run_append_room_cells (P := Tryz.prog) w t ty E.ty i ht i1 b f n n ad 0 c [] (by simp) (by intro j u hu; simp at hu) (by simp) (by omega) (by intro j hj; simp at hj) (by intro j hj; simp at hj)
  · obtain ⟨cs, hcs, hrow⟩ := hr.row
    obtain ⟨ds, hds, hrow2⟩ := hr2.row
    obtain ⟨b2, o2, rfl, hb2, hb3, _⟩ := hr2.at_ h0
    have hdl := hds.length
    have hcl := hcs.length
    have hne : ds ≠ [] := by
      rintro rfl
      have := Nat.mul_pos (show 0 < l2.length by omega) hpos
      simp at hdl; omega
    obtain ⟨b4, o4, e4, _, hc4⟩ := hrow2 hne
    cases e4
    have hold : ∀ j u, cs[j]? = some u → w.cell? ((⟨b, f, none⟩ : Addr).add j) = some u := by
      intro j u hu
      have hne2 : cs ≠ [] := by rintro rfl; simp at hu
      obtain ⟨b5, o5, e5, _, hc5⟩ := hrow hne2
      cases e5
      rw [Addr.add_lit]; exact hc5 j u hu
    obtain ⟨v', w', hrun, h1, h2⟩ := run_append_arg_grows (P := Tryz.prog) w t ty E.ty i z E.size E.bytes ht i1 i2 i3 i4 i5 hpos ⟨b, f, none⟩ n n cs (by rw [hcl, hln]) hold ⟨b2, o2, none⟩ m c ds (by rw [hdl, hlm])
      (fun j u hu => by rw [Addr.add_lit]; exact hc4 j u hu) (by omega) (by simp only [maxLen]; omega) (Nat.le_trans (Nat.mul_le_mul hn hf) (by decide))
    have hd := Sem.run_drawn hrun
    have hb : Below w.heap.size w w' := Below.append (v := .slice none 0 0) (Below.refl _ _) h2 hd (Nat.le_refl _) (fun k hk => by cases hk)
    obtain ⟨g, cap, e, hg1, hg2⟩ := h1.form (by omega)
    subst e
    refine ⟨g, 0, cap, w', hrun, ?_, hb⟩
    have hk := Kr.of_below hb ex
    obtain ⟨A', c', e, hc⟩ := own_form h1
    injection e with _ _ e3
    subst e3
    exact RL.of_row (Row.of_own h1 (fun b hb => hex b hb)) (Elts.join (hds.mono hk) (hcs.mono hk)) (by rw [List.length_append, hln, hlm]) hc

variable {o : Oper} {a : Act} {Q : Exit → Act → World → Prop}
theorem wpList_append_full {ops : Array Oper} {rest : List Oper} (hgd : o.guard = none) (s x : Operand) (t : TypeId)
    (ho : o.op = .call { callee := .builtin .append, args := #[s, x], argTypes := #[t, t] }) (ht : Tryz.prog.underlying t = some (.slice E.ty))
    (ex : List Nat) (b f n : Nat) (l : List α) (hs : a.eval s = .slice (some ⟨b, f, none⟩) n n) (hr : RL E w ex (some ⟨b, f, none⟩) n n l)
    (A2 : Option Addr) (m c : Nat) (l2 : List α) (hx : a.eval x = .slice A2 m c) (hr2 : RL E w ex A2 m c l2) (hn : n + m ≤ 100000000000) (hex : ∀ b ∈ ex, b < w.heap.size)
    (h : ∀ b' f' c' w', RL E w' ex (some ⟨b', f', none⟩) (n + m) c' (l ++ l2) → Below w.heap.size w w' → wpList Tryz.prog ops Q rest (a.put o.dst (.slice (some ⟨b', f', none⟩) (n + m) c')) w') : wpList Tryz.prog ops Q (o :: rest) a w := by
  refine wpList_plain hgd fun K hK => ?_
  obtain ⟨b', f', c', w', hrun, h1, h2⟩ := run_append_full E w t o.type ht ex b f n l hr A2 m c l2 hr2 hn hex
  unfold Oper.wp execOp
  simp only [ho, resolve, invoke, builtin, Sem.run_bind, Sem.run_pure, Result.andThen_ok, List.map_toArray, List.map_cons, List.map_nil, hs, hx, hrun]
  exact hK _ _ (h b' f' c' w' h1 h2)
end

section
variable {α : Type} {E : Elt α} {w : World} {ex : List Nat} {b o n c : Nat} {l : List α}
theorem RL.cutTo (h : RL E w ex (some ⟨b, o, none⟩) n c l) {k : Nat} (hk : k ≤ n) : RL E w ex (some ⟨b, o, none⟩) k k (l.take k) := by
  have hl := h.len
  refine ⟨by rw [List.length_take]; omega, Nat.le_refl _, fun h0 => ?_⟩
  obtain ⟨b', o', e, hx, hb, ht⟩ := h.at_ (by omega)
  refine ⟨b', o', e, hx, hb, fun i hi => ?_⟩
  rw [List.length_take] at hi
  rw [List.getElem_take]
  exact ht i (by omega)
theorem RL.cutFrom (h : RL E w ex (some ⟨b, o, none⟩) n c l) {k : Nat} (hk : k ≤ n) : RL E w ex (some ⟨b, o + k * E.size, none⟩) (n - k) (c - k) (l.drop k) := by
  have hl := h.len
  have hc := h.cap
  refine ⟨by rw [List.length_drop]; omega, by omega, fun h0 => ?_⟩
  obtain ⟨b', o', e, hx, hb, ht⟩ := h.at_ (by omega)
  cases e
  refine ⟨b, o + k * E.size, rfl, hx, hb, fun i hi => ?_⟩
  rw [List.length_drop] at hi
  rw [List.getElem_drop]
  obtain ⟨vs, h1, h2⟩ := ht (k + i) (by omega)
  refine ⟨vs, h1, fun j u hu => ?_⟩
  have := h2 j u hu
  rwa [show o + (k + i) * E.size + j = o + k * E.size + i * E.size + j from by rw [Nat.add_mul]; omega] at this
end

/-! ### insertion at a place -/
theorem insP_app {p : Pol} : ∀ {a b : List Pol}, (∀ q ∈ a, cmpP q p < 0) → insP p (a ++ b) = a ++ insP p b
  | [], _, _ => rfl
  | q :: a, b, h => by
    rw [List.cons_append, insP, if_pos (h q List.mem_cons_self), insP_app (fun x hx => h x (List.mem_cons_of_mem _ hx)), List.cons_append]
theorem insP_at {p : Pol} {L : List Pol} {k : Nat} (h : ∀ q ∈ L.take k, cmpP q p < 0) (hn : ∀ hk : k < L.length, 0 < cmpP L[k] p) : insP p L = L.take k ++ (p :: L.drop k) := by
  conv => lhs; rw [← List.take_append_drop k L]
  rw [insP_app h]
  congr 1
  by_cases hk : k < L.length
  · rw [List.drop_eq_getElem_cons hk, insP]
    have := hn hk
    rw [if_neg (by omega), if_neg (by omega)]
  · rw [List.drop_of_length_le (by omega)]; rfl
theorem insP_same {p : Pol} {L : List Pol} {k : Nat} (h : ∀ q ∈ L.take k, cmpP q p < 0) (hk : k < L.length) (he : L[k] = p) : insP p L = L := by
  conv => lhs; rw [← List.take_append_drop k L]
  rw [insP_app h, List.drop_eq_getElem_cons hk, insP, he, cmpP_self, if_neg (by omega), if_pos rfl, ← he, ← List.drop_eq_getElem_cons hk, List.take_append_drop]
/-- What the reference keeps. -/
def keepB (plain : Bool) (P : Pol) : Bool := !P.isEmpty && !(plain && decide (pdeg P = 0))
def sortedK (plain : Bool) (l : List Pol) : List Pol := sortD ((l.map normP).filter (keepB plain))
theorem sortD_snoc (l : List Pol) (p : Pol) : sortD (l ++ [p]) = insP p (sortD l) := by
  unfold sortD; rw [List.foldl_append]; rfl
theorem sortedK_skip {plain : Bool} {l : List Pol} {k : Nat} (hk : k < l.length) (h : keepB plain (normP l[k]) = false) : sortedK plain (l.take (k + 1)) = sortedK plain (l.take k) := by
  unfold sortedK
  rw [List.take_succ_eq_append_getElem hk, List.map_append, List.filter_append]
  simp [h]
theorem sortedK_ins {plain : Bool} {l : List Pol} {k : Nat} (hk : k < l.length) (h : keepB plain (normP l[k]) = true) : sortedK plain (l.take (k + 1)) = insP (normP l[k]) (sortedK plain (l.take k)) := by
  unfold sortedK
  rw [List.take_succ_eq_append_getElem hk, List.map_append, List.filter_append]
  simp only [List.map_cons, List.map_nil, List.filter_cons, h, if_true, List.filter_nil]
  exact sortD_snoc _ _
theorem sortedK_mem {plain : Bool} {l : List Pol} {n : Nat} (hm : ∀ p ∈ l, Len8 (normP p)) : ∀ q ∈ sortedK plain (l.take n), ∃ p ∈ l, q = normP p := by
  intro q hq
  unfold sortedK at hq
  rw [mem_sortD] at hq
  · obtain ⟨h1, _⟩ := List.mem_filter.1 hq
    obtain ⟨p, hp, rfl⟩ := List.mem_map.1 h1
    exact ⟨p, List.mem_of_mem_take hp, rfl⟩
  · intro p hp
    obtain ⟨h1, _⟩ := List.mem_filter.1 hp
    obtain ⟨q, hq, rfl⟩ := List.mem_map.1 h1
    exact hm q (List.mem_of_mem_take hq)

end Go.Proofs.YthhdleppkggepaaGreat
