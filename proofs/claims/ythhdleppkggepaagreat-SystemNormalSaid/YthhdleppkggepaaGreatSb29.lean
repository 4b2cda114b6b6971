/-
  The walk of the reference of package polynomial: the sum.
-/
import Derived.Test.YthhdleppkggepaaGreatSb28

set_option linter.unusedSimpArgs false
set_option linter.unusedVariables false
set_option linter.unusedSectionVars false

namespace Go.Proofs.YthhdleppkggepaaGreat
open Go.RowKit Go.Deep
set_option maxRecDepth 100000

theorem addP_left {p q : List (Rat × List Int)} {i : Nat} (hi : i < p.length) {k : Nat} (hk : q.length ≤ k) : addP (p.drop i) (q.drop k) = p[i] :: addP (p.drop (i + 1)) (q.drop k) := by
  rw [List.drop_of_length_le hk, addP_nil', addP_nil', List.drop_eq_getElem_cons hi]
theorem addP_right {p q : List (Rat × List Int)} {i : Nat} (hi : p.length ≤ i) {k : Nat} (hk : k < q.length) : addP (p.drop i) (q.drop k) = q[k] :: addP (p.drop i) (q.drop (k + 1)) := by
  rw [List.drop_of_length_le hi, addP_nil, addP_nil, List.drop_eq_getElem_cons hk]
theorem addP_gt {p q : List (Rat × List Int)} {i : Nat} (hi : i < p.length) {k : Nat} (hk : k < q.length) (h : 0 < cmpL p[i].2 q[k].2) : addP (p.drop i) (q.drop k) = p[i] :: addP (p.drop (i + 1)) (q.drop k) := by
  rw [List.drop_eq_getElem_cons hi, List.drop_eq_getElem_cons hk, addP_cons, if_pos h]
theorem addP_lt {p q : List (Rat × List Int)} {i : Nat} (hi : i < p.length) {k : Nat} (hk : k < q.length) (h : cmpL p[i].2 q[k].2 < 0) : addP (p.drop i) (q.drop k) = q[k] :: addP (p.drop i) (q.drop (k + 1)) := by
  rw [List.drop_eq_getElem_cons hi, List.drop_eq_getElem_cons hk, addP_cons, if_neg (by omega), if_pos h]
theorem addP_eq0 {p q : List (Rat × List Int)} {i : Nat} (hi : i < p.length) {k : Nat} (hk : k < q.length) (h : cmpL p[i].2 q[k].2 = 0) (h0 : p[i].1 + q[k].1 = 0) : addP (p.drop i) (q.drop k) = addP (p.drop (i + 1)) (q.drop (k + 1)) := by
  rw [List.drop_eq_getElem_cons hi, List.drop_eq_getElem_cons hk, addP_cons, if_neg (by omega), if_neg (by omega), if_pos h0]
theorem addP_eq1 {p q : List (Rat × List Int)} {i : Nat} (hi : i < p.length) {k : Nat} (hk : k < q.length) (h : cmpL p[i].2 q[k].2 = 0) (h0 : p[i].1 + q[k].1 ≠ 0) : addP (p.drop i) (q.drop k) = (p[i].1 + q[k].1, p[i].2) :: addP (p.drop (i + 1)) (q.drop (k + 1)) := by
  rw [List.drop_eq_getElem_cons hi, List.drop_eq_getElem_cons hk, addP_cons, if_neg (by omega), if_neg (by omega), if_neg h0]
theorem go_on {α : Type} {l a b R : List α} {x : α} (h : l ++ a = R) (e : a = x :: b) : (l ++ [x]) ++ b = R := by
  subst e; simpa using h

set_option maxHeartbeats 8000000 in
theorem r6add_ok (w : World) (ex : List Nat) (B1 : Option Addr) (np cp : Nat) (p : List (Rat × List Int)) (B2 : Option Addr) (nq cq : Nat) (q : List (Rat × List Int)) (hx : RP w ex B1 np cp p) (hy : RP w ex B2 nq cq q)
    (htp : PTy p) (htq : PTy q) (hnp : np ≤ 1000000000) (hnq : nq ≤ 1000000000) (hex : ∀ b ∈ ex, b < w.heap.size) :
    Calls Tryz.prog 41 #[.slice B1 np cp, .slice B2 nq cq] w (RetP w ex (addP p q)) := by
  have HL1 := Lib.hid hx.len
  have HL2 := Lib.hid hy.len
  have hcap1 := hx.cap
  have hcap2 := hy.cap
  have HT1 := Lib.hid htp
  have HT2 := Lib.hid htq
  clear htp htq
  go_enter Tryz.func41, Tryz.ntmps41
  go_wp2_with fail
  go_loopw [5, 6, 7] (fun v ti tk wr => ∃ (i k : Nat) (l : List (Rat × List Int)), i ≤ np ∧ k ≤ nq ∧ ti = .int .i64 i ∧ tk = .int .i64 k ∧ OwnL tmE wr w.heap.size ex v l ∧ l.length ≤ i + k ∧ Hid (l ++ addP (p.drop i) (q.drop k) = addP p q) ∧ Below w.heap.size w wr) (fun _ ti tk _ => (np - (intOf ti).toNat) + (nq - (intOf tk).toNat))
  case atStart => exact ⟨0, 0, [], Nat.zero_le _, Nat.zero_le _, rfl, rfl, OwnL.empty w w.heap.size ex (Nat.le_refl _), Nat.zero_le _, Lib.hid rfl, (by repeat first | with_reducible exact .refl .. | with_reducible assumption | refine .s ?_ ?_ | refine .m ?_ ?_ | refine .l ?_ ?_ | refine .d ?_ | refine .e ?_ | (simp <;> omega) | omega)⟩
  case round =>
    obtain ⟨i, k, l, hi, hk, rfl, rfl, hown, hll, HA, hb⟩ := hrel
    have hsz := hb.size
    have hvle := hown.le
    obtain ⟨vm, hvm⟩ : ∃ m, l.length = m := ⟨_, rfl⟩
    obtain ⟨vA, vc, rfl, hvc⟩ := hown.form hvm
    have hkr := Kr.fresh (ex := ex) (l := own (.slice vA vm vc)) hb (fun b hb => (hvle b hb).1)
    have hxw := hx.mono hkr
    have hyw := hy.mono hkr
    have hvmi : vm ≤ i + k := by omega
    have HVM := Lib.hid hvm
    rw [hvm] at hll
    clear hkr
    by_cases hi1 : i < np
    · obtain ⟨b, o, rfl, hbx, hbl, ht⟩ := hxw.at_ (by omega)
      have hkp : i < p.length := by have := HL1.out; omega
      obtain ⟨s1, A1, n1, c1, s2, A2, n2, c2, e0, e1, e2, e3, e4, e5, e6, e7, h0, h1, h2, h3, h4, h5, h6, h7, h8, h9, h10, h11, hq, hm⟩ := ht i hkp
      have hd1 : wr.cell? ⟨b, o + i * 12 + 4 + 1, none⟩ = some (.int .i64 e1) := h5
      have hd2 : wr.cell? ⟨b, o + i * 12 + 4 + 2, none⟩ = some (.int .i64 e2) := h6
      have hd3 : wr.cell? ⟨b, o + i * 12 + 4 + 3, none⟩ = some (.int .i64 e3) := h7
      have hd4 : wr.cell? ⟨b, o + i * 12 + 4 + 4, none⟩ = some (.int .i64 e4) := h8
      have hd5 : wr.cell? ⟨b, o + i * 12 + 4 + 5, none⟩ = some (.int .i64 e5) := h9
      have hd6 : wr.cell? ⟨b, o + i * 12 + 4 + 6, none⟩ = some (.int .i64 e6) := h10
      have hd7 : wr.cell? ⟨b, o + i * 12 + 4 + 7, none⟩ = some (.int .i64 e7) := h11
      clear ht
      have hT1 : Ty p[i].1 := HT1.out _ (List.getElem_mem hkp)
      have HM1 := Lib.hid hm
      have hii : (i : Int) < (np : Int) := by omega
      by_cases hk1 : k < nq
      · obtain ⟨b', o', rfl, hbx', hbl', ht⟩ := hyw.at_ (by omega)
        have hkq : k < q.length := by have := HL2.out; omega
        obtain ⟨s3, A3, n3, c3, s4, A4, n4, c4, f0, f1, f2, f3, f4, f5, f6, f7, g0, g1, g2, g3, g4, g5, g6, g7, g8, g9, g10, g11, gq, gm⟩ := ht k hkq
        have gd1 : wr.cell? ⟨b', o' + k * 12 + 4 + 1, none⟩ = some (.int .i64 f1) := g5
        have gd2 : wr.cell? ⟨b', o' + k * 12 + 4 + 2, none⟩ = some (.int .i64 f2) := g6
        have gd3 : wr.cell? ⟨b', o' + k * 12 + 4 + 3, none⟩ = some (.int .i64 f3) := g7
        have gd4 : wr.cell? ⟨b', o' + k * 12 + 4 + 4, none⟩ = some (.int .i64 f4) := g8
        have gd5 : wr.cell? ⟨b', o' + k * 12 + 4 + 5, none⟩ = some (.int .i64 f5) := g9
        have gd6 : wr.cell? ⟨b', o' + k * 12 + 4 + 6, none⟩ = some (.int .i64 f6) := g10
        have gd7 : wr.cell? ⟨b', o' + k * 12 + 4 + 7, none⟩ = some (.int .i64 f7) := g11
        clear ht
        have hT2 : Ty q[k].1 := HT2.out _ (List.getElem_mem hkq)
        have HM2 := Lib.hid gm
        have hkk : (k : Int) < (nq : Int) := by omega
        have hkf : ((k : Int) == (nq : Int)) = false := by simp; omega
        have hif : ((i : Int) == (np : Int)) = false := by simp; omega
        obtain ⟨z, hz⟩ : ∃ z, cmpL [e0, e1, e2, e3, e4, e5, e6, e7] [f0, f1, f2, f3, f4, f5, f6, f7] = z := ⟨_, rfl⟩
        have hzz : cmpL p[i].2 q[k].2 = z := by rw [hm, gm]; exact hz
        have HZ := Lib.hid hz
        have HZZ := Lib.hid hzz
        clear hz hzz hm gm
        by_cases hgt : 0 < z
        · have HS := Lib.hid (go_on HA.out (addP_gt hkp hkq (by rw [HZZ.out]; exact hgt)))
          go_wp2_with fail
          go_region_held3 (fun w' => w'.cell? ⟨b, o + i * 12 + 4, none⟩ = some (.int .i64 e0) ∧ w'.cell? ⟨b, o + i * 12 + 4 + 1, none⟩ = some (.int .i64 e1) ∧ w'.cell? ⟨b, o + i * 12 + 4 + 2, none⟩ = some (.int .i64 e2) ∧ w'.cell? ⟨b, o + i * 12 + 4 + 3, none⟩ = some (.int .i64 e3) ∧ w'.cell? ⟨b, o + i * 12 + 4 + 4, none⟩ = some (.int .i64 e4) ∧ w'.cell? ⟨b, o + i * 12 + 4 + 5, none⟩ = some (.int .i64 e5) ∧ w'.cell? ⟨b, o + i * 12 + 4 + 6, none⟩ = some (.int .i64 e6) ∧ w'.cell? ⟨b, o + i * 12 + 4 + 7, none⟩ = some (.int .i64 e7) ∧ w'.cell? ⟨b', o' + k * 12 + 4, none⟩ = some (.int .i64 f0) ∧ w'.cell? ⟨b', o' + k * 12 + 4 + 1, none⟩ = some (.int .i64 f1) ∧ w'.cell? ⟨b', o' + k * 12 + 4 + 2, none⟩ = some (.int .i64 f2) ∧ w'.cell? ⟨b', o' + k * 12 + 4 + 3, none⟩ = some (.int .i64 f3) ∧ w'.cell? ⟨b', o' + k * 12 + 4 + 4, none⟩ = some (.int .i64 f4) ∧ w'.cell? ⟨b', o' + k * 12 + 4 + 5, none⟩ = some (.int .i64 f5) ∧ w'.cell? ⟨b', o' + k * 12 + 4 + 6, none⟩ = some (.int .i64 f6) ∧ w'.cell? ⟨b', o' + k * 12 + 4 + 7, none⟩ = some (.int .i64 f7))
            ((repeat' apply And.intro) <;> first | (simp [*, go_sem, ↓IntWalk.iteOmega]; done) | (refine got_of ?_; simp [*, go_sem, ↓IntWalk.iteOmega]; done))
            (first | (go_at_call 85; refine (r4cmp_ok _ e0 e1 e2 e3 e4 e5 e6 e7 f0 f1 f2 f3 f4 f5 f6 f7).mono ?_; rintro e w' ⟨X1, D1, rfl, rfl⟩; rw [HZ.out]))
          all_goals (rename_i hHeldZ; clear hHeldZ)
          all_goals
            go_wp2_with (at_builtin; refine wpList_append_elt tmE _ rfl _ _ 65 rfl Tryz.underlying65 w.heap.size ex (.slice vA vm vc) l rfl (hown.keep (by repeat first | with_reducible exact .refl .. | with_reducible assumption | refine .s ?_ ?_ | refine .m ?_ ?_ | refine .l ?_ ?_ | refine .d ?_ | refine .e ?_ | (simp <;> omega) | omega)) _ _ rfl p[i] [.bool s1, .slice A1 n1 c1, .bool s2, .slice A2 n2 c2, .int .i64 e0, .int .i64 e1, .int .i64 e2, .int .i64 e3, .int .i64 e4, .int .i64 e5, .int .i64 e6, .int .i64 e7] (cell_new _ _ _ _ (by simp)) (by intro hh; rcases List.mem_append.1 hh with hh | hh; (have := (hvle _ hh).2; omega); (have := hex _ hh; omega)) ⟨s1, A1, n1, c1, s2, A2, n2, c2, _, _, _, _, _, _, _, _, rfl, hq.mono (Kr.of_below (by repeat first | with_reducible exact .refl .. | with_reducible assumption | refine .s ?_ ?_ | refine .m ?_ ?_ | refine .l ?_ ?_ | refine .d ?_ | refine .e ?_ | (simp <;> omega) | omega) _), HM1.out⟩ (by omega) (by simp; omega) ?_; intro v' w1 hown1 hkr1 hbl1; have hbx1 := hbl1 _ _ (show Below w.heap.size w _ from (by repeat first | with_reducible exact .refl .. | with_reducible assumption | refine .s ?_ ?_ | refine .m ?_ ?_ | refine .l ?_ ?_ | refine .d ?_ | refine .e ?_ | (simp <;> omega) | omega)) (Nat.le_refl _))
            go_wp2_with fail
            go_roundw
            case rel => exact ⟨i + 1, k, _, by omega, by omega, by go_num, rfl, hown1, by rw [List.length_append, HVM.out]; simp; omega, HS, hbx1⟩
            case measure => simp [intOf]; omega
        · by_cases hltz : z < 0
          · have HS := Lib.hid (go_on HA.out (addP_lt hkp hkq (by rw [HZZ.out]; exact hltz)))
            go_wp2_with fail
            go_region_held3 (fun w' => w'.cell? ⟨b, o + i * 12 + 4, none⟩ = some (.int .i64 e0) ∧ w'.cell? ⟨b, o + i * 12 + 4 + 1, none⟩ = some (.int .i64 e1) ∧ w'.cell? ⟨b, o + i * 12 + 4 + 2, none⟩ = some (.int .i64 e2) ∧ w'.cell? ⟨b, o + i * 12 + 4 + 3, none⟩ = some (.int .i64 e3) ∧ w'.cell? ⟨b, o + i * 12 + 4 + 4, none⟩ = some (.int .i64 e4) ∧ w'.cell? ⟨b, o + i * 12 + 4 + 5, none⟩ = some (.int .i64 e5) ∧ w'.cell? ⟨b, o + i * 12 + 4 + 6, none⟩ = some (.int .i64 e6) ∧ w'.cell? ⟨b, o + i * 12 + 4 + 7, none⟩ = some (.int .i64 e7) ∧ w'.cell? ⟨b', o' + k * 12 + 4, none⟩ = some (.int .i64 f0) ∧ w'.cell? ⟨b', o' + k * 12 + 4 + 1, none⟩ = some (.int .i64 f1) ∧ w'.cell? ⟨b', o' + k * 12 + 4 + 2, none⟩ = some (.int .i64 f2) ∧ w'.cell? ⟨b', o' + k * 12 + 4 + 3, none⟩ = some (.int .i64 f3) ∧ w'.cell? ⟨b', o' + k * 12 + 4 + 4, none⟩ = some (.int .i64 f4) ∧ w'.cell? ⟨b', o' + k * 12 + 4 + 5, none⟩ = some (.int .i64 f5) ∧ w'.cell? ⟨b', o' + k * 12 + 4 + 6, none⟩ = some (.int .i64 f6) ∧ w'.cell? ⟨b', o' + k * 12 + 4 + 7, none⟩ = some (.int .i64 f7))
              ((repeat' apply And.intro) <;> first | (simp [*, go_sem, ↓IntWalk.iteOmega]; done) | (refine got_of ?_; simp [*, go_sem, ↓IntWalk.iteOmega]; done))
              (first | (go_at_call 85; refine (r4cmp_ok _ e0 e1 e2 e3 e4 e5 e6 e7 f0 f1 f2 f3 f4 f5 f6 f7).mono ?_; rintro e w' ⟨X1, D1, rfl, rfl⟩; rw [HZ.out]))
            all_goals (rename_i hHeldZ; clear hHeldZ)
            all_goals
              go_wp2_with fail
              go_region_held3 (fun w' => w'.cell? ⟨b, o + i * 12 + 4, none⟩ = some (.int .i64 e0) ∧ w'.cell? ⟨b, o + i * 12 + 4 + 1, none⟩ = some (.int .i64 e1) ∧ w'.cell? ⟨b, o + i * 12 + 4 + 2, none⟩ = some (.int .i64 e2) ∧ w'.cell? ⟨b, o + i * 12 + 4 + 3, none⟩ = some (.int .i64 e3) ∧ w'.cell? ⟨b, o + i * 12 + 4 + 4, none⟩ = some (.int .i64 e4) ∧ w'.cell? ⟨b, o + i * 12 + 4 + 5, none⟩ = some (.int .i64 e5) ∧ w'.cell? ⟨b, o + i * 12 + 4 + 6, none⟩ = some (.int .i64 e6) ∧ w'.cell? ⟨b, o + i * 12 + 4 + 7, none⟩ = some (.int .i64 e7) ∧ w'.cell? ⟨b', o' + k * 12 + 4, none⟩ = some (.int .i64 f0) ∧ w'.cell? ⟨b', o' + k * 12 + 4 + 1, none⟩ = some (.int .i64 f1) ∧ w'.cell? ⟨b', o' + k * 12 + 4 + 2, none⟩ = some (.int .i64 f2) ∧ w'.cell? ⟨b', o' + k * 12 + 4 + 3, none⟩ = some (.int .i64 f3) ∧ w'.cell? ⟨b', o' + k * 12 + 4 + 4, none⟩ = some (.int .i64 f4) ∧ w'.cell? ⟨b', o' + k * 12 + 4 + 5, none⟩ = some (.int .i64 f5) ∧ w'.cell? ⟨b', o' + k * 12 + 4 + 6, none⟩ = some (.int .i64 f6) ∧ w'.cell? ⟨b', o' + k * 12 + 4 + 7, none⟩ = some (.int .i64 f7))
                ((repeat' apply And.intro) <;> first | (simp [*, go_sem, ↓IntWalk.iteOmega]; done) | (refine got_of ?_; simp [*, go_sem, ↓IntWalk.iteOmega]; done))
                (first | (go_at_call 85; refine (r4cmp_ok _ e0 e1 e2 e3 e4 e5 e6 e7 f0 f1 f2 f3 f4 f5 f6 f7).mono ?_; rintro e w' ⟨X2, D2, rfl, rfl⟩; rw [HZ.out]))
              all_goals (rename_i hHeldZ; clear hHeldZ)
            all_goals
              go_wp2_with (at_builtin; refine wpList_append_elt tmE _ rfl _ _ 65 rfl Tryz.underlying65 w.heap.size ex (.slice vA vm vc) l rfl (hown.keep (by repeat first | with_reducible exact .refl .. | with_reducible assumption | refine .s ?_ ?_ | refine .m ?_ ?_ | refine .l ?_ ?_ | refine .d ?_ | refine .e ?_ | (simp <;> omega) | omega)) _ _ rfl q[k] [.bool s3, .slice A3 n3 c3, .bool s4, .slice A4 n4 c4, .int .i64 f0, .int .i64 f1, .int .i64 f2, .int .i64 f3, .int .i64 f4, .int .i64 f5, .int .i64 f6, .int .i64 f7] (cell_new _ _ _ _ (by simp)) (by intro hh; rcases List.mem_append.1 hh with hh | hh; (have := (hvle _ hh).2; omega); (have := hex _ hh; omega)) ⟨s3, A3, n3, c3, s4, A4, n4, c4, _, _, _, _, _, _, _, _, rfl, gq.mono (Kr.of_below (by repeat first | with_reducible exact .refl .. | with_reducible assumption | refine .s ?_ ?_ | refine .m ?_ ?_ | refine .l ?_ ?_ | refine .d ?_ | refine .e ?_ | (simp <;> omega) | omega) _), HM2.out⟩ (by omega) (by simp; omega) ?_; intro v' w1 hown1 hkr1 hbl1; have hbx1 := hbl1 _ _ (show Below w.heap.size w _ from (by repeat first | with_reducible exact .refl .. | with_reducible assumption | refine .s ?_ ?_ | refine .m ?_ ?_ | refine .l ?_ ?_ | refine .d ?_ | refine .e ?_ | (simp <;> omega) | omega)) (Nat.le_refl _))
              go_wp2_with fail
              go_roundw
              case rel => exact ⟨i, k + 1, _, by omega, by omega, rfl, by go_num, hown1, by rw [List.length_append, HVM.out]; simp; omega, HS, hbx1⟩
              case measure => simp [intOf]; omega
          · obtain rfl : z = 0 := by omega
            clear hgt hltz
            by_cases h00 : p[i].1 + q[k].1 = 0
            · have HS : Hid (l ++ addP (p.drop (i + 1)) (q.drop (k + 1)) = addP p q) := by have := HA.out; rw [addP_eq0 hkp hkq HZZ.out h00] at this; exact this
              have hsg := sign_eq_zero h00
              have H00 := Lib.hid h00
              clear h00
              go_wp2_with fail
              go_region_held3 (fun w' => w'.cell? ⟨b, o + i * 12 + 4, none⟩ = some (.int .i64 e0) ∧ w'.cell? ⟨b, o + i * 12 + 4 + 1, none⟩ = some (.int .i64 e1) ∧ w'.cell? ⟨b, o + i * 12 + 4 + 2, none⟩ = some (.int .i64 e2) ∧ w'.cell? ⟨b, o + i * 12 + 4 + 3, none⟩ = some (.int .i64 e3) ∧ w'.cell? ⟨b, o + i * 12 + 4 + 4, none⟩ = some (.int .i64 e4) ∧ w'.cell? ⟨b, o + i * 12 + 4 + 5, none⟩ = some (.int .i64 e5) ∧ w'.cell? ⟨b, o + i * 12 + 4 + 6, none⟩ = some (.int .i64 e6) ∧ w'.cell? ⟨b, o + i * 12 + 4 + 7, none⟩ = some (.int .i64 e7) ∧ w'.cell? ⟨b', o' + k * 12 + 4, none⟩ = some (.int .i64 f0) ∧ w'.cell? ⟨b', o' + k * 12 + 4 + 1, none⟩ = some (.int .i64 f1) ∧ w'.cell? ⟨b', o' + k * 12 + 4 + 2, none⟩ = some (.int .i64 f2) ∧ w'.cell? ⟨b', o' + k * 12 + 4 + 3, none⟩ = some (.int .i64 f3) ∧ w'.cell? ⟨b', o' + k * 12 + 4 + 4, none⟩ = some (.int .i64 f4) ∧ w'.cell? ⟨b', o' + k * 12 + 4 + 5, none⟩ = some (.int .i64 f5) ∧ w'.cell? ⟨b', o' + k * 12 + 4 + 6, none⟩ = some (.int .i64 f6) ∧ w'.cell? ⟨b', o' + k * 12 + 4 + 7, none⟩ = some (.int .i64 f7))
                ((repeat' apply And.intro) <;> first | (simp [*, go_sem, ↓IntWalk.iteOmega]; done) | (refine got_of ?_; simp [*, go_sem, ↓IntWalk.iteOmega]; done))
                (first | (go_at_call 85; refine (r4cmp_ok _ e0 e1 e2 e3 e4 e5 e6 e7 f0 f1 f2 f3 f4 f5 f6 f7).mono ?_; rintro e w' ⟨X1, D1, rfl, rfl⟩; rw [HZ.out]))
              all_goals (rename_i hHeldZ; clear hHeldZ)
              all_goals
                go_wp2_with fail
                go_region_held3 (fun w' => w'.cell? ⟨b, o + i * 12 + 4, none⟩ = some (.int .i64 e0) ∧ w'.cell? ⟨b, o + i * 12 + 4 + 1, none⟩ = some (.int .i64 e1) ∧ w'.cell? ⟨b, o + i * 12 + 4 + 2, none⟩ = some (.int .i64 e2) ∧ w'.cell? ⟨b, o + i * 12 + 4 + 3, none⟩ = some (.int .i64 e3) ∧ w'.cell? ⟨b, o + i * 12 + 4 + 4, none⟩ = some (.int .i64 e4) ∧ w'.cell? ⟨b, o + i * 12 + 4 + 5, none⟩ = some (.int .i64 e5) ∧ w'.cell? ⟨b, o + i * 12 + 4 + 6, none⟩ = some (.int .i64 e6) ∧ w'.cell? ⟨b, o + i * 12 + 4 + 7, none⟩ = some (.int .i64 e7) ∧ w'.cell? ⟨b', o' + k * 12 + 4, none⟩ = some (.int .i64 f0) ∧ w'.cell? ⟨b', o' + k * 12 + 4 + 1, none⟩ = some (.int .i64 f1) ∧ w'.cell? ⟨b', o' + k * 12 + 4 + 2, none⟩ = some (.int .i64 f2) ∧ w'.cell? ⟨b', o' + k * 12 + 4 + 3, none⟩ = some (.int .i64 f3) ∧ w'.cell? ⟨b', o' + k * 12 + 4 + 4, none⟩ = some (.int .i64 f4) ∧ w'.cell? ⟨b', o' + k * 12 + 4 + 5, none⟩ = some (.int .i64 f5) ∧ w'.cell? ⟨b', o' + k * 12 + 4 + 6, none⟩ = some (.int .i64 f6) ∧ w'.cell? ⟨b', o' + k * 12 + 4 + 7, none⟩ = some (.int .i64 f7))
                  ((repeat' apply And.intro) <;> first | (simp [*, go_sem, ↓IntWalk.iteOmega]; done) | (refine got_of ?_; simp [*, go_sem, ↓IntWalk.iteOmega]; done))
                  (first | (go_at_call 85; refine (r4cmp_ok _ e0 e1 e2 e3 e4 e5 e6 e7 f0 f1 f2 f3 f4 f5 f6 f7).mono ?_; rintro e w' ⟨X2, D2, rfl, rfl⟩; rw [HZ.out]))
                all_goals (rename_i hHeldZ; clear hHeldZ)
              all_goals
                go_wp2_with fail
                go_region_held3 (fun w' => w'.cell? ⟨b, o + i * 12, none⟩ = some (.bool s1) ∧ w'.cell? ⟨b, o + i * 12 + 1, none⟩ = some (.slice A1 n1 c1) ∧ w'.cell? ⟨b, o + i * 12 + 2, none⟩ = some (.bool s2) ∧ w'.cell? ⟨b, o + i * 12 + 3, none⟩ = some (.slice A2 n2 c2) ∧ w'.cell? ⟨b', o' + k * 12, none⟩ = some (.bool s3) ∧ w'.cell? ⟨b', o' + k * 12 + 1, none⟩ = some (.slice A3 n3 c3) ∧ w'.cell? ⟨b', o' + k * 12 + 2, none⟩ = some (.bool s4) ∧ w'.cell? ⟨b', o' + k * 12 + 3, none⟩ = some (.slice A4 n4 c4))
                  ((repeat' apply And.intro) <;> first | (simp [*, go_sem, ↓IntWalk.iteOmega]; done) | (refine got_of ?_; simp [*, go_sem, ↓IntWalk.iteOmega]; done))
                  (first | (go_at_call 86; refine (r2add_ok _ (own (.slice vA vm vc) ++ ex) s1 A1 n1 c1 s2 A2 n2 c2 _ s3 A3 n3 c3 s4 A4 n4 c4 _ (hq.mono (Kr.of_below (by repeat first | with_reducible exact .refl .. | with_reducible assumption | refine .s ?_ ?_ | refine .m ?_ ?_ | refine .l ?_ ?_ | refine .d ?_ | refine .e ?_ | (simp <;> omega) | omega) _)) (gq.mono (Kr.of_below (by repeat first | with_reducible exact .refl .. | with_reducible assumption | refine .s ?_ ?_ | refine .m ?_ ?_ | refine .l ?_ ?_ | refine .d ?_ | refine .e ?_ | (simp <;> omega) | omega) _)) hT1.few hT2.few (hT1.wee2 hT2) (hexs hex (by simp; omega) (fun b hb => by have := (hvle b hb).2; simp; omega))).mono ?_; rintro e w' ⟨s5, A5, n5, c5, s6, A6, n6, c6, X3, D3, rfl, rfl, hres⟩))
                all_goals (rename_i hHeldZ; clear hHeldZ)
              all_goals
                go_wp2_with fail
                refine (r2sign_ok _ [] _ _ _ _ _ _ _ _ _ (by first | (refine hres.mono (Kr.sub (Kr.of_below ?_ _) ?_); (next => (repeat first | with_reducible exact .refl .. | with_reducible assumption | refine .s ?_ ?_ | refine .m ?_ ?_ | refine .l ?_ ?_ | refine .d ?_ | refine .e ?_ | (simp <;> omega) | omega)); (next => simp)) | (refine (hres.avoid (g := wr.heap.size + X1.size + X2.size) (noWordRat (heap_new_more _ _ _ _ _ (by simp)))).mono (Kr.down ?_ ?_); (next => (repeat (first | (with_reducible exact Kr.refl _ _) | (with_reducible assumption) | refine Kr.setCell ?_ _ (by simp) | refine Kr.more ?_ _ _ | refine Kr.alloc_ ?_ _ | refine Kr.drew ?_ | refine Kr.drewN ?_ _))); (next => simp)))).mono ?_; rintro e w1 ⟨X4, D4, rfl, rfl⟩
                go_wp2_with fail
                go_roundw
                case rel => exact ⟨i + 1, k + 1, l, by omega, by omega, by go_num, by go_num, hown.keep (by repeat first | with_reducible exact .refl .. | with_reducible assumption | refine .s ?_ ?_ | refine .m ?_ ?_ | refine .l ?_ ?_ | refine .d ?_ | refine .e ?_ | (simp <;> omega) | omega), by rw [HVM.out]; omega, HS, (by repeat first | with_reducible exact .refl .. | with_reducible assumption | refine .s ?_ ?_ | refine .m ?_ ?_ | refine .l ?_ ?_ | refine .d ?_ | refine .e ?_ | (simp <;> omega) | omega)⟩
                case measure => simp [intOf]; omega
            · have HS := Lib.hid (go_on HA.out (addP_eq1 hkp hkq HZZ.out h00))
              have hsg := sign_ne_zero h00
              have H00 := Lib.hid h00
              clear h00
              go_wp2_with fail
              go_region_held3 (fun w' => w'.cell? ⟨b, o + i * 12 + 4, none⟩ = some (.int .i64 e0) ∧ w'.cell? ⟨b, o + i * 12 + 4 + 1, none⟩ = some (.int .i64 e1) ∧ w'.cell? ⟨b, o + i * 12 + 4 + 2, none⟩ = some (.int .i64 e2) ∧ w'.cell? ⟨b, o + i * 12 + 4 + 3, none⟩ = some (.int .i64 e3) ∧ w'.cell? ⟨b, o + i * 12 + 4 + 4, none⟩ = some (.int .i64 e4) ∧ w'.cell? ⟨b, o + i * 12 + 4 + 5, none⟩ = some (.int .i64 e5) ∧ w'.cell? ⟨b, o + i * 12 + 4 + 6, none⟩ = some (.int .i64 e6) ∧ w'.cell? ⟨b, o + i * 12 + 4 + 7, none⟩ = some (.int .i64 e7) ∧ w'.cell? ⟨b', o' + k * 12 + 4, none⟩ = some (.int .i64 f0) ∧ w'.cell? ⟨b', o' + k * 12 + 4 + 1, none⟩ = some (.int .i64 f1) ∧ w'.cell? ⟨b', o' + k * 12 + 4 + 2, none⟩ = some (.int .i64 f2) ∧ w'.cell? ⟨b', o' + k * 12 + 4 + 3, none⟩ = some (.int .i64 f3) ∧ w'.cell? ⟨b', o' + k * 12 + 4 + 4, none⟩ = some (.int .i64 f4) ∧ w'.cell? ⟨b', o' + k * 12 + 4 + 5, none⟩ = some (.int .i64 f5) ∧ w'.cell? ⟨b', o' + k * 12 + 4 + 6, none⟩ = some (.int .i64 f6) ∧ w'.cell? ⟨b', o' + k * 12 + 4 + 7, none⟩ = some (.int .i64 f7))
                ((repeat' apply And.intro) <;> first | (simp [*, go_sem, ↓IntWalk.iteOmega]; done) | (refine got_of ?_; simp [*, go_sem, ↓IntWalk.iteOmega]; done))
                (first | (go_at_call 85; refine (r4cmp_ok _ e0 e1 e2 e3 e4 e5 e6 e7 f0 f1 f2 f3 f4 f5 f6 f7).mono ?_; rintro e w' ⟨X1, D1, rfl, rfl⟩; rw [HZ.out]))
              all_goals (rename_i hHeldZ; clear hHeldZ)
              all_goals
                go_wp2_with fail
                go_region_held3 (fun w' => w'.cell? ⟨b, o + i * 12 + 4, none⟩ = some (.int .i64 e0) ∧ w'.cell? ⟨b, o + i * 12 + 4 + 1, none⟩ = some (.int .i64 e1) ∧ w'.cell? ⟨b, o + i * 12 + 4 + 2, none⟩ = some (.int .i64 e2) ∧ w'.cell? ⟨b, o + i * 12 + 4 + 3, none⟩ = some (.int .i64 e3) ∧ w'.cell? ⟨b, o + i * 12 + 4 + 4, none⟩ = some (.int .i64 e4) ∧ w'.cell? ⟨b, o + i * 12 + 4 + 5, none⟩ = some (.int .i64 e5) ∧ w'.cell? ⟨b, o + i * 12 + 4 + 6, none⟩ = some (.int .i64 e6) ∧ w'.cell? ⟨b, o + i * 12 + 4 + 7, none⟩ = some (.int .i64 e7) ∧ w'.cell? ⟨b', o' + k * 12 + 4, none⟩ = some (.int .i64 f0) ∧ w'.cell? ⟨b', o' + k * 12 + 4 + 1, none⟩ = some (.int .i64 f1) ∧ w'.cell? ⟨b', o' + k * 12 + 4 + 2, none⟩ = some (.int .i64 f2) ∧ w'.cell? ⟨b', o' + k * 12 + 4 + 3, none⟩ = some (.int .i64 f3) ∧ w'.cell? ⟨b', o' + k * 12 + 4 + 4, none⟩ = some (.int .i64 f4) ∧ w'.cell? ⟨b', o' + k * 12 + 4 + 5, none⟩ = some (.int .i64 f5) ∧ w'.cell? ⟨b', o' + k * 12 + 4 + 6, none⟩ = some (.int .i64 f6) ∧ w'.cell? ⟨b', o' + k * 12 + 4 + 7, none⟩ = some (.int .i64 f7))
                  ((repeat' apply And.intro) <;> first | (simp [*, go_sem, ↓IntWalk.iteOmega]; done) | (refine got_of ?_; simp [*, go_sem, ↓IntWalk.iteOmega]; done))
                  (first | (go_at_call 85; refine (r4cmp_ok _ e0 e1 e2 e3 e4 e5 e6 e7 f0 f1 f2 f3 f4 f5 f6 f7).mono ?_; rintro e w' ⟨X2, D2, rfl, rfl⟩; rw [HZ.out]))
                all_goals (rename_i hHeldZ; clear hHeldZ)
              all_goals
                go_wp2_with fail
                go_region_held3 (fun w' => w'.cell? ⟨b, o + i * 12, none⟩ = some (.bool s1) ∧ w'.cell? ⟨b, o + i * 12 + 1, none⟩ = some (.slice A1 n1 c1) ∧ w'.cell? ⟨b, o + i * 12 + 2, none⟩ = some (.bool s2) ∧ w'.cell? ⟨b, o + i * 12 + 3, none⟩ = some (.slice A2 n2 c2) ∧ w'.cell? ⟨b', o' + k * 12, none⟩ = some (.bool s3) ∧ w'.cell? ⟨b', o' + k * 12 + 1, none⟩ = some (.slice A3 n3 c3) ∧ w'.cell? ⟨b', o' + k * 12 + 2, none⟩ = some (.bool s4) ∧ w'.cell? ⟨b', o' + k * 12 + 3, none⟩ = some (.slice A4 n4 c4))
                  ((repeat' apply And.intro) <;> first | (simp [*, go_sem, ↓IntWalk.iteOmega]; done) | (refine got_of ?_; simp [*, go_sem, ↓IntWalk.iteOmega]; done))
                  (first | (go_at_call 86; refine (r2add_ok _ (own (.slice vA vm vc) ++ ex) s1 A1 n1 c1 s2 A2 n2 c2 _ s3 A3 n3 c3 s4 A4 n4 c4 _ (hq.mono (Kr.of_below (by repeat first | with_reducible exact .refl .. | with_reducible assumption | refine .s ?_ ?_ | refine .m ?_ ?_ | refine .l ?_ ?_ | refine .d ?_ | refine .e ?_ | (simp <;> omega) | omega) _)) (gq.mono (Kr.of_below (by repeat first | with_reducible exact .refl .. | with_reducible assumption | refine .s ?_ ?_ | refine .m ?_ ?_ | refine .l ?_ ?_ | refine .d ?_ | refine .e ?_ | (simp <;> omega) | omega) _)) hT1.few hT2.few (hT1.wee2 hT2) (hexs hex (by simp; omega) (fun b hb => by have := (hvle b hb).2; simp; omega))).mono ?_; rintro e w' ⟨s5, A5, n5, c5, s6, A6, n6, c6, X3, D3, rfl, rfl, hres⟩))
                all_goals (rename_i hHeldZ; clear hHeldZ)
              · go_wp2_with fail
                refine (r2sign_ok _ [] _ _ _ _ _ _ _ _ _ (by first | (refine hres.mono (Kr.sub (Kr.of_below ?_ _) ?_); (next => (repeat first | with_reducible exact .refl .. | with_reducible assumption | refine .s ?_ ?_ | refine .m ?_ ?_ | refine .l ?_ ?_ | refine .d ?_ | refine .e ?_ | (simp <;> omega) | omega)); (next => simp)) | (refine (hres.avoid (g := wr.heap.size + X1.size + X2.size) (noWordRat (heap_new_more _ _ _ _ _ (by simp)))).mono (Kr.down ?_ ?_); (next => (repeat (first | (with_reducible exact Kr.refl _ _) | (with_reducible assumption) | refine Kr.setCell ?_ _ (by simp) | refine Kr.more ?_ _ _ | refine Kr.alloc_ ?_ _ | refine Kr.drew ?_ | refine Kr.drewN ?_ _))); (next => simp)))).mono ?_; rintro e w1 ⟨X4, D4, rfl, rfl⟩
                go_wp2_with fail
                refine wp_abs (fun W1 => Below wr.heap.size wr W1 ∧ wr.heap.size + X1.size + X2.size + X3.size < W1.heap.size ∧ RQ W1 (own (.slice vA vm vc) ++ ex) s5 A5 n5 c5 s6 A6 n6 c6 (p[i].1 + q[k].1) ∧ W1.cell? ⟨wr.heap.size + X1.size + X2.size + X3.size, 0, none⟩ = some (.bool s5) ∧ W1.cell? ⟨wr.heap.size + X1.size + X2.size + X3.size, 1, none⟩ = some (.slice A5 n5 c5) ∧ W1.cell? ⟨wr.heap.size + X1.size + X2.size + X3.size, 2, none⟩ = some (.bool s6) ∧ W1.cell? ⟨wr.heap.size + X1.size + X2.size + X3.size, 3, none⟩ = some (.slice A6 n6 c6))
                  ⟨(by repeat first | with_reducible exact .refl .. | with_reducible assumption | refine .s ?_ ?_ | refine .m ?_ ?_ | refine .l ?_ ?_ | refine .d ?_ | refine .e ?_ | (simp <;> omega) | omega), by simp; omega, (by first | (refine hres.mono (Kr.sub (Kr.of_below ?_ _) ?_); (next => (repeat first | with_reducible exact .refl .. | with_reducible assumption | refine .s ?_ ?_ | refine .m ?_ ?_ | refine .l ?_ ?_ | refine .d ?_ | refine .e ?_ | (simp <;> omega) | omega)); (next => (first | (intro b hb; simp [hb]; done) | (intro b hb; exact hb) | (intro b hb; simp at hb ⊢; grind)))) | (refine (hres.avoid (g := wr.heap.size + X1.size + X2.size) (noWordRat (heap_new_more _ _ _ _ _ (by simp)))).mono (Kr.down ?_ ?_); (next => (repeat (first | (with_reducible exact Kr.refl _ _) | (with_reducible assumption) | refine Kr.setCell ?_ _ (by simp) | refine Kr.more ?_ _ _ | refine Kr.alloc_ ?_ _ | refine Kr.drew ?_ | refine Kr.drewN ?_ _))); (next => (first | (intro b hb; simp [hb]; done) | (intro b hb; exact hb) | (intro b hb; simp at hb ⊢; grind))))), by simp [go_sem, ↓IntWalk.iteOmega], by simp [go_sem, ↓IntWalk.iteOmega], by simp [go_sem, ↓IntWalk.iteOmega], by simp [go_sem, ↓IntWalk.iteOmega]⟩ ?_
                rintro W1 ⟨hB1, hBs, hrq, j0, j1, j2, j3⟩
                have hsz1 := hB1.size
                have g4 := (Below.at0 hB1 hbl _).trans h4
                have k1 := (Below.at0 hB1 hbl _).trans hd1
                have k2 := (Below.at0 hB1 hbl _).trans hd2
                have k3 := (Below.at0 hB1 hbl _).trans hd3
                have k4 := (Below.at0 hB1 hbl _).trans hd4
                have k5 := (Below.at0 hB1 hbl _).trans hd5
                have k6 := (Below.at0 hB1 hbl _).trans hd6
                have k7 := (Below.at0 hB1 hbl _).trans hd7
                have hown := hown.keep hB1
                have hb1 := hb.trans (hB1.mono hsz)
                clear h0 h1 h2 h3 h4 hd1 hd2 hd3 hd4 hd5 hd6 hd7 gd1 gd2 gd3 gd4 gd5 gd6 gd7
                go_region_held3 (fun w' => w'.cell? ⟨b, o + i * 12 + 4, none⟩ = some (.int .i64 e0) ∧ w'.cell? ⟨b, o + i * 12 + 4 + 1, none⟩ = some (.int .i64 e1) ∧ w'.cell? ⟨b, o + i * 12 + 4 + 2, none⟩ = some (.int .i64 e2) ∧ w'.cell? ⟨b, o + i * 12 + 4 + 3, none⟩ = some (.int .i64 e3) ∧ w'.cell? ⟨b, o + i * 12 + 4 + 4, none⟩ = some (.int .i64 e4) ∧ w'.cell? ⟨b, o + i * 12 + 4 + 5, none⟩ = some (.int .i64 e5) ∧ w'.cell? ⟨b, o + i * 12 + 4 + 6, none⟩ = some (.int .i64 e6) ∧ w'.cell? ⟨b, o + i * 12 + 4 + 7, none⟩ = some (.int .i64 e7) ∧ w'.cell? ⟨wr.heap.size + X1.size + X2.size + X3.size, 0, none⟩ = some (.bool s5) ∧ w'.cell? ⟨wr.heap.size + X1.size + X2.size + X3.size, 0 + 1, none⟩ = some (.slice A5 n5 c5) ∧ w'.cell? ⟨wr.heap.size + X1.size + X2.size + X3.size, 0 + 2, none⟩ = some (.bool s6) ∧ w'.cell? ⟨wr.heap.size + X1.size + X2.size + X3.size, 0 + 3, none⟩ = some (.slice A6 n6 c6))
                  ((repeat' apply And.intro) <;> first | (simp [*, go_sem, ↓IntWalk.iteOmega]; done) | (refine got_of ?_; simp [*, go_sem, ↓IntWalk.iteOmega]; done))
                  (first | (show (if Region.wanted { dst := _, op := Op.call { callee := Callee.builtin Builtin.append, args := _, argTypes := _ }, type := _, pos := _, after := _, guard := _ } _ = true then _ else _); refine step_append_elt tmE _ rfl _ _ 65 rfl Tryz.underlying65 w.heap.size ex (.slice vA vm vc) l rfl (hown.keep (by repeat first | with_reducible exact .refl .. | with_reducible assumption | refine .s ?_ ?_ | refine .m ?_ ?_ | refine .l ?_ ?_ | refine .d ?_ | refine .e ?_ | (simp <;> omega) | omega)) _ _ rfl (p[i].1 + q[k].1, p[i].2) [.bool s5, .slice A5 n5 c5, .bool s6, .slice A6 n6 c6, .int .i64 e0, .int .i64 e1, .int .i64 e2, .int .i64 e3, .int .i64 e4, .int .i64 e5, .int .i64 e6, .int .i64 e7] (cell_new _ _ _ _ (by simp)) (by intro hh; rcases List.mem_append.1 hh with hh | hh; (have := (hvle _ hh).2; omega); (have := hex _ hh; omega)) ⟨s5, A5, n5, c5, s6, A6, n6, c6, _, _, _, _, _, _, _, _, rfl, hrq.mono (Kr.of_below (by repeat first | with_reducible exact .refl .. | with_reducible assumption | refine .s ?_ ?_ | refine .m ?_ ?_ | refine .l ?_ ?_ | refine .d ?_ | refine .e ?_ | (simp <;> omega) | omega) _), HM1.out⟩ (by omega) (by simp; omega) ?_; intro v' w1 hown1 hkr1 hbl1; have hbx1 := hbl1 _ _ (show Below w.heap.size W1 _ from (by repeat first | with_reducible exact .refl .. | with_reducible assumption | refine .s ?_ ?_ | refine .m ?_ ?_ | refine .l ?_ ?_ | refine .d ?_ | refine .e ?_ | (simp <;> omega) | omega)) (Nat.le_refl _); have f1 := hkr1.cell (b := b) (by simp; omega) hbx; have f3 := hkr1.cell (b := wr.heap.size + X1.size + X2.size + X3.size) (by simp; omega) (by intro hh; rcases List.mem_append.1 hh with hh | hh; (have := (hvle _ hh).2; omega); (have := hex _ hh; omega))))
                all_goals (rename_i hHeldZ; clear hHeldZ)
                go_wp2_with fail
                go_roundw
                case rel => exact ⟨i + 1, k + 1, _, by omega, by omega, by go_num, by go_num, hown1, by rw [List.length_append, HVM.out]; simp; omega, HS, hb1.trans hbx1⟩
                case measure => simp [intOf]; omega
              · go_wp2_with fail
                refine (r2sign_ok _ [] _ _ _ _ _ _ _ _ _ (by first | (refine hres.mono (Kr.sub (Kr.of_below ?_ _) ?_); (next => (repeat first | with_reducible exact .refl .. | with_reducible assumption | refine .s ?_ ?_ | refine .m ?_ ?_ | refine .l ?_ ?_ | refine .d ?_ | refine .e ?_ | (simp <;> omega) | omega)); (next => simp)) | (refine (hres.avoid (g := wr.heap.size + X1.size + X2.size) (noWordRat (heap_new_more _ _ _ _ _ (by simp)))).mono (Kr.down ?_ ?_); (next => (repeat (first | (with_reducible exact Kr.refl _ _) | (with_reducible assumption) | refine Kr.setCell ?_ _ (by simp) | refine Kr.more ?_ _ _ | refine Kr.alloc_ ?_ _ | refine Kr.drew ?_ | refine Kr.drewN ?_ _))); (next => simp)))).mono ?_; rintro e w1 ⟨X4, D4, rfl, rfl⟩
                go_wp2_with fail
                refine wp_abs (fun W1 => Below wr.heap.size wr W1 ∧ wr.heap.size + X1.size + X2.size < W1.heap.size ∧ RQ W1 (own (.slice vA vm vc) ++ ex) s5 A5 n5 c5 s6 A6 n6 c6 (p[i].1 + q[k].1) ∧ W1.cell? ⟨wr.heap.size + X1.size + X2.size, 0, none⟩ = some (.bool s5) ∧ W1.cell? ⟨wr.heap.size + X1.size + X2.size, 1, none⟩ = some (.slice A5 n5 c5) ∧ W1.cell? ⟨wr.heap.size + X1.size + X2.size, 2, none⟩ = some (.bool s6) ∧ W1.cell? ⟨wr.heap.size + X1.size + X2.size, 3, none⟩ = some (.slice A6 n6 c6))
                  ⟨(by repeat first | with_reducible exact .refl .. | with_reducible assumption | refine .s ?_ ?_ | refine .m ?_ ?_ | refine .l ?_ ?_ | refine .d ?_ | refine .e ?_ | (simp <;> omega) | omega), by simp; omega, (by first | (refine hres.mono (Kr.sub (Kr.of_below ?_ _) ?_); (next => (repeat first | with_reducible exact .refl .. | with_reducible assumption | refine .s ?_ ?_ | refine .m ?_ ?_ | refine .l ?_ ?_ | refine .d ?_ | refine .e ?_ | (simp <;> omega) | omega)); (next => (first | (intro b hb; simp [hb]; done) | (intro b hb; exact hb) | (intro b hb; simp at hb ⊢; grind)))) | (refine (hres.avoid (g := wr.heap.size + X1.size + X2.size) (noWordRat (heap_new_more _ _ _ _ _ (by simp)))).mono (Kr.down ?_ ?_); (next => (repeat (first | (with_reducible exact Kr.refl _ _) | (with_reducible assumption) | refine Kr.setCell ?_ _ (by simp) | refine Kr.more ?_ _ _ | refine Kr.alloc_ ?_ _ | refine Kr.drew ?_ | refine Kr.drewN ?_ _))); (next => (first | (intro b hb; simp [hb]; done) | (intro b hb; exact hb) | (intro b hb; simp at hb ⊢; grind))))), by simp [go_sem, ↓IntWalk.iteOmega], by simp [go_sem, ↓IntWalk.iteOmega], by simp [go_sem, ↓IntWalk.iteOmega], by simp [go_sem, ↓IntWalk.iteOmega]⟩ ?_
                rintro W1 ⟨hB1, hBs, hrq, j0, j1, j2, j3⟩
                have hsz1 := hB1.size
                have g4 := (Below.at0 hB1 hbl _).trans h4
                have k1 := (Below.at0 hB1 hbl _).trans hd1
                have k2 := (Below.at0 hB1 hbl _).trans hd2
                have k3 := (Below.at0 hB1 hbl _).trans hd3
                have k4 := (Below.at0 hB1 hbl _).trans hd4
                have k5 := (Below.at0 hB1 hbl _).trans hd5
                have k6 := (Below.at0 hB1 hbl _).trans hd6
                have k7 := (Below.at0 hB1 hbl _).trans hd7
                have hown := hown.keep hB1
                have hb1 := hb.trans (hB1.mono hsz)
                clear h0 h1 h2 h3 h4 hd1 hd2 hd3 hd4 hd5 hd6 hd7 gd1 gd2 gd3 gd4 gd5 gd6 gd7
                go_region_held3 (fun w' => w'.cell? ⟨b, o + i * 12 + 4, none⟩ = some (.int .i64 e0) ∧ w'.cell? ⟨b, o + i * 12 + 4 + 1, none⟩ = some (.int .i64 e1) ∧ w'.cell? ⟨b, o + i * 12 + 4 + 2, none⟩ = some (.int .i64 e2) ∧ w'.cell? ⟨b, o + i * 12 + 4 + 3, none⟩ = some (.int .i64 e3) ∧ w'.cell? ⟨b, o + i * 12 + 4 + 4, none⟩ = some (.int .i64 e4) ∧ w'.cell? ⟨b, o + i * 12 + 4 + 5, none⟩ = some (.int .i64 e5) ∧ w'.cell? ⟨b, o + i * 12 + 4 + 6, none⟩ = some (.int .i64 e6) ∧ w'.cell? ⟨b, o + i * 12 + 4 + 7, none⟩ = some (.int .i64 e7) ∧ w'.cell? ⟨wr.heap.size + X1.size + X2.size, 0, none⟩ = some (.bool s5) ∧ w'.cell? ⟨wr.heap.size + X1.size + X2.size, 0 + 1, none⟩ = some (.slice A5 n5 c5) ∧ w'.cell? ⟨wr.heap.size + X1.size + X2.size, 0 + 2, none⟩ = some (.bool s6) ∧ w'.cell? ⟨wr.heap.size + X1.size + X2.size, 0 + 3, none⟩ = some (.slice A6 n6 c6))
                  ((repeat' apply And.intro) <;> first | (simp [*, go_sem, ↓IntWalk.iteOmega]; done) | (refine got_of ?_; simp [*, go_sem, ↓IntWalk.iteOmega]; done))
                  (first | (show (if Region.wanted { dst := _, op := Op.call { callee := Callee.builtin Builtin.append, args := _, argTypes := _ }, type := _, pos := _, after := _, guard := _ } _ = true then _ else _); refine step_append_elt tmE _ rfl _ _ 65 rfl Tryz.underlying65 w.heap.size ex (.slice vA vm vc) l rfl (hown.keep (by repeat first | with_reducible exact .refl .. | with_reducible assumption | refine .s ?_ ?_ | refine .m ?_ ?_ | refine .l ?_ ?_ | refine .d ?_ | refine .e ?_ | (simp <;> omega) | omega)) _ _ rfl (p[i].1 + q[k].1, p[i].2) [.bool s5, .slice A5 n5 c5, .bool s6, .slice A6 n6 c6, .int .i64 e0, .int .i64 e1, .int .i64 e2, .int .i64 e3, .int .i64 e4, .int .i64 e5, .int .i64 e6, .int .i64 e7] (cell_new _ _ _ _ (by simp)) (by intro hh; rcases List.mem_append.1 hh with hh | hh; (have := (hvle _ hh).2; omega); (have := hex _ hh; omega)) ⟨s5, A5, n5, c5, s6, A6, n6, c6, _, _, _, _, _, _, _, _, rfl, hrq.mono (Kr.of_below (by repeat first | with_reducible exact .refl .. | with_reducible assumption | refine .s ?_ ?_ | refine .m ?_ ?_ | refine .l ?_ ?_ | refine .d ?_ | refine .e ?_ | (simp <;> omega) | omega) _), HM1.out⟩ (by omega) (by simp; omega) ?_; intro v' w1 hown1 hkr1 hbl1; have hbx1 := hbl1 _ _ (show Below w.heap.size W1 _ from (by repeat first | with_reducible exact .refl .. | with_reducible assumption | refine .s ?_ ?_ | refine .m ?_ ?_ | refine .l ?_ ?_ | refine .d ?_ | refine .e ?_ | (simp <;> omega) | omega)) (Nat.le_refl _); have f1 := hkr1.cell (b := b) (by simp; omega) hbx; have f3 := hkr1.cell (b := wr.heap.size + X1.size + X2.size) (by simp; omega) (by intro hh; rcases List.mem_append.1 hh with hh | hh; (have := (hvle _ hh).2; omega); (have := hex _ hh; omega))))
                all_goals (rename_i hHeldZ; clear hHeldZ)
                go_wp2_with fail
                go_roundw
                case rel => exact ⟨i + 1, k + 1, _, by omega, by omega, by go_num, by go_num, hown1, by rw [List.length_append, HVM.out]; simp; omega, HS, hb1.trans hbx1⟩
                case measure => simp [intOf]; omega
      · obtain rfl : k = nq := by omega
        have HS := Lib.hid (go_on HA.out (addP_left (q := q) (k := k) hkp (by have := HL2.out; omega)))
        go_wp2_with fail
        go_quiet (fail)
        go_wp2_with (at_builtin; refine wpList_append_elt tmE _ rfl _ _ 65 rfl Tryz.underlying65 w.heap.size ex (.slice vA vm vc) l rfl (hown.keep (by repeat first | with_reducible exact .refl .. | with_reducible assumption | refine .s ?_ ?_ | refine .m ?_ ?_ | refine .l ?_ ?_ | refine .d ?_ | refine .e ?_ | (simp <;> omega) | omega)) _ _ rfl p[i] [.bool s1, .slice A1 n1 c1, .bool s2, .slice A2 n2 c2, .int .i64 e0, .int .i64 e1, .int .i64 e2, .int .i64 e3, .int .i64 e4, .int .i64 e5, .int .i64 e6, .int .i64 e7] (cell_new _ _ _ _ (by simp)) (by intro hh; rcases List.mem_append.1 hh with hh | hh; (have := (hvle _ hh).2; omega); (have := hex _ hh; omega)) ⟨s1, A1, n1, c1, s2, A2, n2, c2, _, _, _, _, _, _, _, _, rfl, hq.mono (Kr.of_below (by repeat first | with_reducible exact .refl .. | with_reducible assumption | refine .s ?_ ?_ | refine .m ?_ ?_ | refine .l ?_ ?_ | refine .d ?_ | refine .e ?_ | (simp <;> omega) | omega) _), HM1.out⟩ (by omega) (by simp; omega) ?_; intro v' w1 hown1 hkr1 hbl1; have hbx1 := hbl1 _ _ (show Below w.heap.size w _ from (by repeat first | with_reducible exact .refl .. | with_reducible assumption | refine .s ?_ ?_ | refine .m ?_ ?_ | refine .l ?_ ?_ | refine .d ?_ | refine .e ?_ | (simp <;> omega) | omega)) (Nat.le_refl _))
        go_wp2_with fail
        go_roundw
        case rel => exact ⟨i + 1, k, _, by omega, by omega, by go_num, rfl, hown1, by rw [List.length_append, HVM.out]; simp; omega, HS, hbx1⟩
        case measure => simp [intOf]; omega
    · obtain rfl : i = np := by omega
      by_cases hk1 : k < nq
      · obtain ⟨b', o', rfl, hbx', hbl', ht⟩ := hyw.at_ (by omega)
        have hkq : k < q.length := by have := HL2.out; omega
        obtain ⟨s3, A3, n3, c3, s4, A4, n4, c4, f0, f1, f2, f3, f4, f5, f6, f7, g0, g1, g2, g3, g4, g5, g6, g7, g8, g9, g10, g11, gq, gm⟩ := ht k hkq
        clear ht
        have HS := Lib.hid (go_on HA.out (addP_right (by have := HL1.out; omega) hkq))
        have hkk : (k : Int) < (nq : Int) := by omega
        have hkf : ((k : Int) == (nq : Int)) = false := by simp; omega
        go_wp2_with fail
        go_quiet (fail)
        go_wp2_with fail
        go_quiet (fail)
        go_wp2_with (at_builtin; refine wpList_append_elt tmE _ rfl _ _ 65 rfl Tryz.underlying65 w.heap.size ex (.slice vA vm vc) l rfl (hown.keep (by repeat first | with_reducible exact .refl .. | with_reducible assumption | refine .s ?_ ?_ | refine .m ?_ ?_ | refine .l ?_ ?_ | refine .d ?_ | refine .e ?_ | (simp <;> omega) | omega)) _ _ rfl q[k] [.bool s3, .slice A3 n3 c3, .bool s4, .slice A4 n4 c4, .int .i64 f0, .int .i64 f1, .int .i64 f2, .int .i64 f3, .int .i64 f4, .int .i64 f5, .int .i64 f6, .int .i64 f7] (cell_new _ _ _ _ (by simp)) (by intro hh; rcases List.mem_append.1 hh with hh | hh; (have := (hvle _ hh).2; omega); (have := hex _ hh; omega)) ⟨s3, A3, n3, c3, s4, A4, n4, c4, _, _, _, _, _, _, _, _, rfl, gq.mono (Kr.of_below (by repeat first | with_reducible exact .refl .. | with_reducible assumption | refine .s ?_ ?_ | refine .m ?_ ?_ | refine .l ?_ ?_ | refine .d ?_ | refine .e ?_ | (simp <;> omega) | omega) _), gm⟩ (by omega) (by simp; omega) ?_; intro v' w1 hown1 hkr1 hbl1; have hbx1 := hbl1 _ _ (show Below w.heap.size w _ from (by repeat first | with_reducible exact .refl .. | with_reducible assumption | refine .s ?_ ?_ | refine .m ?_ ?_ | refine .l ?_ ?_ | refine .d ?_ | refine .e ?_ | (simp <;> omega) | omega)) (Nat.le_refl _))
        go_wp2_with fail
        go_roundw
        case rel => exact ⟨i, k + 1, _, by omega, by omega, rfl, by go_num, hown1, by rw [List.length_append, HVM.out]; simp; omega, HS, hbx1⟩
        case measure => simp [intOf]; omega
      · obtain rfl : k = nq := by omega
        have HE : Hid (l = addP p q) := by have := HA.out; rw [List.drop_of_length_le (by have := HL1.out; omega), List.drop_of_length_le (by have := HL2.out; omega), addP_nil, List.append_nil] at this; exact this
        go_wp2_with fail
        go_ret
        exact RetP.mk rfl hb (RP.of_rl (by rw [← HE.out]; exact hown.read hex))

end Go.Proofs.YthhdleppkggepaaGreat
