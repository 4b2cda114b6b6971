/-
  The walk of system.Normal.
-/
import Derived.Test.YthhdleppkggepaaGreatSb03
import Derived.Test.YthhdleppkggepaaGreatSb15
import Derived.Test.YthhdleppkggepaaGreatSb19

set_option linter.unusedSimpArgs false
set_option linter.unusedVariables false
set_option linter.unusedSectionVars false

namespace Go.Proofs.YthhdleppkggepaaGreat
open Go.RowKit Go.Deep
set_option maxRecDepth 100000

def oneP : Pol := [(1, [0, 0, 0, 0, 0, 0, 0, 0])]
def yesL (eqs neqs : List Pol) : List Pol := eqs.filter (fun p => !p.isEmpty) ++ (neqs.filter (fun p => decide (pdeg p = -1))).map (fun _ => oneP)
def noL (neqs : List Pol) : List Pol := neqs.filter (fun p => decide (pdeg p ≠ -1 ∧ pdeg p ≠ 0))
/-- A core: the number of its variables and two lists. -/
def RetC (w : World) (ex : List Nat) (N : Int) (l1 l2 : List Pol) (z : Int) (e : Ending) (w' : World) : Prop :=
  ∃ A n c A' n' c' X D, e = .returned (.tuple #[.agg #[.int .i64 N, .slice A n c, .slice A' n' c'], .int .i64 z]) ∧ w' = w.more X D ∧ RL poE (w.more X D) ex A n c l1 ∧ RL poE (w.more X D) ex A' n' c' l2
theorem RetC.mk {w w' : World} {ex : List Nat} {N : Int} {l1 l2 : List Pol} {z : Int} {A : Option Addr} {n c : Nat} {A' : Option Addr} {n' c' : Nat} {e : Ending} (he : e = .returned (.tuple #[.agg #[.int .i64 N, .slice A n c, .slice A' n' c'], .int .i64 z]))
    (hb : Below w.heap.size w w') (hr : RL poE w' ex A n c l1) (hr2 : RL poE w' ex A' n' c' l2) : RetC w ex N l1 l2 z e w' := by
  obtain ⟨X, D, rfl⟩ := World.more_of_below hb
  exact ⟨A, n, c, A', n', c', X, D, he, rfl, hr, hr2⟩
/-- Both lists are short enough, or the error for what is too big. -/
def RetN (w : World) (ex : List Nat) (n : Nat) (l1 l2 : List Pol) (e : Ending) (w' : World) : Prop :=
  if 12 < l1.length ∨ 12 < l2.length then RetC w ex 0 [] [] 2 e w' else RetC w ex n l1 l2 0 e w'
theorem RetN.big {w : World} {ex : List Nat} {n : Nat} {l1 l2 : List Pol} {e : Ending} {w' : World} (hc : 12 < l1.length ∨ 12 < l2.length) (h : RetC w ex 0 [] [] 2 e w') : RetN w ex n l1 l2 e w' := by
  unfold RetN; rw [if_pos hc]; exact h
theorem RetN.ok {w : World} {ex : List Nat} {n : Nat} {l1 l2 : List Pol} {e : Ending} {w' : World} (hc : ¬ (12 < l1.length ∨ 12 < l2.length)) (h : RetC w ex n l1 l2 0 e w') : RetN w ex n l1 l2 e w' := by
  unfold RetN; rw [if_neg hc]; exact h
theorem filter_take_succ {α : Type} (f : α → Bool) {l : List α} {k : Nat} (hk : k < l.length) : (l.take (k + 1)).filter f = (l.take k).filter f ++ (if f l[k] then [l[k]] else []) := by
  rw [List.take_succ_eq_append_getElem hk, List.filter_append]
  congr 1
  by_cases h : f l[k] = true <;> simp [h]
theorem tells1 (w : World) (ex : List Nat) (l : List Pol) (b n : Nat) (hg : ∀ p ∈ l, GP p) (hn : n ≤ 4) (hb : b < w.heap.size) (hc : w.cell? ⟨b, 0, none⟩ = some (.int .i64 n)) : Tells 43 #[.pointer (some ⟨b, 0, none⟩)] w ex l (fun p => !withinB p n) := by
  intro w' hw A m c p hp hr
  exact normal1_ok w' ex A m c p b n hr (hg p hp) hn ((Below.at0 hw hb 0).trans hc)
theorem within_any {l : List Pol} {n : Nat} (h : ∀ p ∈ l, withinB p n = true) : l.any (fun p => !withinB p n) = false := by
  rw [Bool.eq_false_iff]
  intro hh
  obtain ⟨p, hp, hc⟩ := List.any_eq_true.1 hh
  rw [h p hp] at hc; cases hc
theorem constP_one : constP 1 = oneP := by unfold constP oneP; rw [if_neg (by decide)]

set_option maxHeartbeats 8000000 in
theorem normal_ok (w : World) (ex : List Nat) (n : Nat) (A1 : Option Addr) (n1 c1 : Nat) (eqs : List Pol) (A2 : Option Addr) (n2 c2 : Nat) (neqs : List Pol) (hx : RL poE w ex A1 n1 c1 eqs) (hy : RL poE w ex A2 n2 c2 neqs) (hn1 : 1 ≤ n) (hn4 : n ≤ 4)
    (hg1 : ∀ p ∈ eqs, GP p) (hg2 : ∀ p ∈ neqs, GP p) (hw1 : ∀ p ∈ eqs, withinB p n = true) (hw2 : ∀ p ∈ neqs, withinB p n = true) (M : Int) (hM : 0 < M) (hM2 : M < 65536) (hy1 : ∀ p ∈ yesL eqs neqs, NP M p) (hy2 : ∀ p ∈ noL neqs, NP M p)
    (hl1 : n1 ≤ 100000) (hl2 : n2 ≤ 100000) (hex : ∀ b ∈ ex, b < w.heap.size) :
    Calls Tryz.prog 12 #[.int .i64 n, .slice A1 n1 c1, .slice A2 n2 c2] w (RetN w ex n (tidyP (yesL eqs neqs)) (tidyP (noL neqs))) := by
  have HL1 := Lib.hid hx.len
  have HL2 := Lib.hid hy.len
  have hcap1 := hx.cap
  have hcap2 := hy.cap
  have HX := Lib.hid hx
  have HY := Lib.hid hy
  have HG1 := Lib.hid hg1
  have HG2 := Lib.hid hg2
  have HY1 := Lib.hid hy1
  have HY2 := Lib.hid hy2
  have HW1 := Lib.hid (within_any hw1)
  have HW2 := Lib.hid (within_any hw2)
  have eg : ∀ args w, (callFunc 43 args).run Tryz.prog w = .ok (.enter 43 args) w := enters_of Tryz.func43 (by kernel_rfl) rfl
  have hc1 := containsP_ok ((w.alloc (.cells #[.int .i64 n] 3)).alloc (.cells #[.int .i64 0, .slice none 0 0, .slice none 0 0] 28)) ex A1 n1 c1 eqs 43 #[.pointer (some ⟨w.heap.size, 0, none⟩)] _ eg (HX.out.mono (Kr.of_below (by repeat first | with_reducible exact .refl .. | with_reducible assumption | refine .s ?_ ?_ | refine .m ?_ ?_ | refine .l ?_ ?_ | refine .d ?_ | refine .e ?_ | (simp <;> omega) | omega) _)) (tells1 _ ex eqs w.heap.size n hg1 hn4 (by simp; omega) (by simp [go_sem, ↓IntWalk.iteOmega])) (by omega)
  have hc2 : ∀ X D, Calls Tryz.prog 45 #[.slice A2 n2 c2, .func (Fn.func 43) #[] #[.pointer (some ⟨w.heap.size, 0, none⟩)]] (((w.alloc (.cells #[.int .i64 n] 3)).alloc (.cells #[.int .i64 0, .slice none 0 0, .slice none 0 0] 28)).more X D) _ := fun X D =>
    containsP_ok (((w.alloc (.cells #[.int .i64 n] 3)).alloc (.cells #[.int .i64 0, .slice none 0 0, .slice none 0 0] 28)).more X D) ex A2 n2 c2 neqs 43 #[.pointer (some ⟨w.heap.size, 0, none⟩)] _ eg (HY.out.mono (Kr.of_below (by repeat first | with_reducible exact .refl .. | with_reducible assumption | refine .s ?_ ?_ | refine .m ?_ ?_ | refine .l ?_ ?_ | refine .d ?_ | refine .e ?_ | (simp <;> omega) | omega) _)) (tells1 _ ex neqs w.heap.size n hg2 hn4 (by simp; omega) (by simp [go_sem, ↓IntWalk.iteOmega])) (by omega)
  rw [HW1.out] at hc1
  rw [HW2.out] at hc2
  have HC1 := Lib.hid hc1
  have HC2 := Lib.hid hc2
  clear hx hy hg1 hg2 hy1 hy2 hc1 hc2 eg hw1 hw2
  go_enter Tryz.func12, Tryz.ntmps12
  go_wp2_with fail
  refine HC1.out.mono ?_; rintro e w1 ⟨X, D, rfl, rfl⟩
  go_wp2_with fail
  refine (HC2.out X D).mono ?_; rintro e w1 ⟨X2, D2, rfl, rfl⟩
  go_wp2_with fail
  refine wp_abs (fun W0 => Below w.heap.size w W0 ∧ w.heap.size + 2 ≤ W0.heap.size ∧ W0.cell? ⟨w.heap.size, 0, none⟩ = some (.int .i64 n) ∧ W0.cell? ⟨w.heap.size + 1, 0, none⟩ = some (.int .i64 0) ∧ W0.cell? ⟨w.heap.size + 1, 1, none⟩ = some (.slice none 0 0) ∧ W0.cell? ⟨w.heap.size + 1, 2, none⟩ = some (.slice none 0 0) ∧
    W0.frozen? ⟨w.heap.size + 1, 0, none⟩ = false ∧ W0.frozen? ⟨w.heap.size + 1, 1, none⟩ = false ∧ W0.frozen? ⟨w.heap.size + 1, 2, none⟩ = false)
    ⟨(by repeat first | with_reducible exact .refl .. | with_reducible assumption | refine .s ?_ ?_ | refine .m ?_ ?_ | refine .l ?_ ?_ | refine .d ?_ | refine .e ?_ | (simp <;> omega) | omega), by simp; omega, by simp [go_sem, ↓IntWalk.iteOmega], by simp [go_sem, ↓IntWalk.iteOmega], by simp [go_sem, ↓IntWalk.iteOmega], by simp [go_sem, ↓IntWalk.iteOmega], by simp [go_sem, ↓IntWalk.iteOmega], by simp [go_sem, ↓IntWalk.iteOmega], by simp [go_sem, ↓IntWalk.iteOmega]⟩ ?_
  rintro W0 ⟨hB0, hS0, x0, y0, y1, y2, z0, z1, z2⟩
  clear HC1 HC2 HW1 HW2
  obtain ⟨B, hBe⟩ : ∃ B, B = W0.heap.size := ⟨_, rfl⟩
  obtain ⟨ex1, hE1⟩ : ∃ e, e = [w.heap.size + 1] ++ ex := ⟨_, rfl⟩
  have HX1 := Lib.hid (HX.out.mono (show Kr w ex W0 ex1 by rw [hE1]; exact Kr.fresh hB0 (by simp)))
  have HZ1 := Lib.hid (HY.out.mono (show Kr w ex W0 ex1 by rw [hE1]; exact Kr.fresh hB0 (by simp)))
  have hex1 : ∀ b ∈ ex1, b < W0.heap.size := by
    rw [hE1]; intro b hb
    rcases List.mem_append.1 hb with hb | hb
    · simp at hb; omega
    · have := hex b hb; omega
  have HE0 := Lib.hid hE1
  clear HX HY hE1
  go_loopw [9, 36] (fun v i wr => ∃ k : Nat, k ≤ n1 ∧ i = .int .i64 k ∧ OwnL poE wr B ex1 v ((eqs.take k).filter (fun p => !p.isEmpty)) ∧ Below B W0 wr) (fun _ i _ => n1 - (intOf i).toNat)
  case atStart => exact ⟨0, Nat.zero_le _, rfl, OwnL.nil _ _ _, Below.refl _ _⟩
  case round =>
    obtain ⟨k, hk, rfl, hown, hb⟩ := hrel
    have hsz := hb.size
    have hvle := hown.le
    have hbw : Below w.heap.size w wr := hB0.trans (hb.mono (by omega))
    have hlen : ((eqs.take k).filter (fun p => !p.isEmpty)).length ≤ k := Nat.le_trans (List.length_filter_le _ _) (by rw [List.length_take]; omega)
    obtain ⟨vA, vc, rfl, hvc⟩ := hown.form rfl
    by_cases hlt : k < n1
    · have hxw := HX1.out.mono (Kr.fresh (l := own (.slice vA ((eqs.take k).filter (fun p => !p.isEmpty)).length vc)) (hBe ▸ hb) (fun b hb => by have := (hvle b hb).1; omega))
      have hkl : k < eqs.length := by rw [← HL1.out]; exact hlt
      obtain ⟨b, o, rfl, hbx, hbl⟩ := hxw.some_ (by omega)
      obtain ⟨A3, m3, c3, hcell, hp3⟩ := hxw.poly hkl
      have HN := Lib.hid (filter_take_succ (fun p : Pol => !p.isEmpty) hkl)
      have hm3 := hp3.len
      generalize hPt : (eqs.take k).filter (fun p => !p.isEmpty) = P at *
      have HPt := Lib.hid hPt; clear hPt
      have hi1 : (k : Int) < (n1 : Int) := by omega
      clear hxw
      by_cases h0 : m3 = 0
      · subst h0
        have he : eqs[k] = [] := List.eq_nil_of_length_eq_zero hm3.symm
        have HE : Hid ((eqs.take (k + 1)).filter (fun p => !p.isEmpty) = P) := Lib.hid (by rw [HN.out, he]; simp)
        clear hm3 he
        go_wp2_with fail
        go_roundw
        case rel => exact ⟨k + 1, by omega, by go_num, by rw [HE.out]; exact hown, hb⟩
        case measure => simp [intOf]; omega
      · have HE : Hid ((eqs.take (k + 1)).filter (fun p => !p.isEmpty) = P ++ [eqs[k]]) := Lib.hid (by
          have hne : eqs[k] ≠ [] := fun e => h0 (by rw [hm3, e]; rfl)
          rw [HN.out]; cases hq : eqs[k] with
          | nil => exact absurd hq hne
          | cons => simp)
        have hm3' : 0 < (m3 : Int) := by omega
        clear hm3
        go_wp2_with (at_builtin; refine wpList_append_elt poE _ rfl _ _ 25 rfl Tryz.underlying25 B ex1 (.slice vA P.length vc) P rfl (hown.keep (by repeat first | with_reducible exact .refl .. | with_reducible assumption | refine .s ?_ ?_ | refine .m ?_ ?_ | refine .l ?_ ?_ | refine .d ?_ | refine .e ?_ | (simp <;> omega) | omega)) _ _ rfl eqs[k] [.slice A3 m3 c3] (cell_new _ _ _ _ (by simp)) (by intro hh; rcases List.mem_append.1 hh with hh | hh; (have := (hvle _ hh).2; omega); (have := hex1 _ hh; omega)) ⟨A3, m3, c3, rfl, hp3.mono (Kr.of_below (by repeat first | with_reducible exact .refl .. | with_reducible assumption | refine .s ?_ ?_ | refine .m ?_ ?_ | refine .l ?_ ?_ | refine .d ?_ | refine .e ?_ | (simp <;> omega) | omega) _)⟩ (by omega) (by simp; omega) ?_; intro v' w1 hown1 hkr1 hbl1; have hbx1 := hbl1 _ _ (show Below B W0 _ from (by repeat first | with_reducible exact .refl .. | with_reducible assumption | refine .s ?_ ?_ | refine .m ?_ ?_ | refine .l ?_ ?_ | refine .d ?_ | refine .e ?_ | (simp <;> omega) | omega)) (Nat.le_refl _))
        go_wp2_with fail
        go_roundw
        case rel => exact ⟨k + 1, by omega, by go_num, by rw [HE.out]; exact hown1, hbx1⟩
        case measure => simp [intOf]; omega
    · obtain rfl : k = n1 := by omega
      rw [List.take_of_length_le (by rw [← HL1.out]; exact Nat.le_refl _)] at hown hvle hvc hlen ⊢
      clear hlt hk
      go_wp2_with fail
      refine wp_abs (fun W1 => Below B W0 W1 ∧ OwnL poE W1 B ex1 (.slice vA (eqs.filter (fun p => !p.isEmpty)).length vc) (eqs.filter (fun p => !p.isEmpty))) ⟨hb, hown⟩ ?_
      rintro W1 ⟨hB1, hown1⟩
      generalize hYe : eqs.filter (fun p => !p.isEmpty) = Y at *
      have HYe := Lib.hid hYe; clear hYe
      clear hb hbw hown hvle hsz HX1 HG1 hvc
      go_loopw [9, 10, 50] (fun v9 v10 i wr => ∃ j : Nat, j ≤ n2 ∧ i = .int .i64 j ∧ OwnL poE wr B (own v10 ++ ex1) v9 (Y ++ ((neqs.take j).filter (fun p => decide (pdeg p = -1))).map (fun _ => oneP)) ∧ OwnL poE wr B (own v9 ++ ex1) v10 ((neqs.take j).filter (fun p => decide (pdeg p ≠ -1 ∧ pdeg p ≠ 0))) ∧ (∀ b ∈ own v9, b ∉ own v10) ∧ Below B W0 wr) (fun _ _ i _ => n2 - (intOf i).toNat)
      case atStart => exact ⟨0, Nat.zero_le _, rfl, by simpa [own, Value.ownBlock] using hown1, OwnL.nil _ _ _, by simp [own, Value.ownBlock], hB1⟩
      case round =>
        obtain ⟨j, hj, rfl, hyes, hno, hdis, hb⟩ := hrel
        have hsz := hb.size
        have hyle := hyes.le
        have hnle := hno.le
        have hbw : Below w.heap.size w wr := hB0.trans (hb.mono (by omega))
        have hlen9 : (Y ++ ((neqs.take j).filter (fun p => decide (pdeg p = -1))).map (fun _ => oneP)).length ≤ 200000 := by
          rw [List.length_append, List.length_map]
          have := List.length_filter_le (fun p => decide (pdeg p = -1)) (neqs.take j)
          rw [List.length_take] at this; omega
        have hlen10 : ((neqs.take j).filter (fun p => decide (pdeg p ≠ -1 ∧ pdeg p ≠ 0))).length ≤ 200000 := by
          have := List.length_filter_le (fun p => decide (pdeg p ≠ -1 ∧ pdeg p ≠ 0)) (neqs.take j)
          rw [List.length_take] at this; omega
        obtain ⟨yA, yc, rfl, hyc⟩ := hyes.form rfl
        obtain ⟨zA, zc, rfl, hzc⟩ := hno.form rfl
        by_cases hlt : j < n2
        · have hjl : j < neqs.length := by rw [← HL2.out]; exact hlt
          have HN1 := Lib.hid (filter_take_succ (fun p : Pol => decide (pdeg p = -1)) hjl)
          have HN2 := Lib.hid (filter_take_succ (fun p : Pol => decide (pdeg p ≠ -1 ∧ pdeg p ≠ 0)) hjl)
          generalize hP1 : ((neqs.take j).filter (fun p => decide (pdeg p = -1))) = P1 at *
          have HP1 := Lib.hid hP1; clear hP1
          generalize hP2 : ((neqs.take j).filter (fun p => decide (pdeg p ≠ -1 ∧ pdeg p ≠ 0))) = P2 at *
          have HP2 := Lib.hid hP2; clear hP2
          generalize hQ1 : Y ++ P1.map (fun _ => oneP) = Q1 at *
          have HQ1 := Lib.hid hQ1; clear hQ1
          have hxw := HZ1.out.mono (Kr.fresh (l := own (.slice yA Q1.length yc) ++ own (.slice zA P2.length zc)) (hBe ▸ hb) (fun b hb => by rcases List.mem_append.1 hb with hb | hb; (have := (hyle b hb).1; omega); (have := (hnle b hb).1; omega)))
          rw [List.append_assoc] at hxw
          obtain ⟨b, o, rfl, hbx, hbl⟩ := hxw.some_ (by omega)
          obtain ⟨A3, m3, c3, hcell, hp3⟩ := hxw.poly hjl
          have hg3 := HG2.out _ (List.getElem_mem hjl)
          have hi1 : (j : Int) < (n2 : Int) := by omega
          have hexx : ∀ b ∈ own (.slice yA Q1.length yc) ++ (own (.slice zA P2.length zc) ++ ex1), b < wr.heap.size := by
            intro b hb
            rcases List.mem_append.1 hb with hb | hb
            · exact (hyle b hb).2
            rcases List.mem_append.1 hb with hb | hb
            · exact (hnle b hb).2
            · have := hex1 b hb; omega
          have hm3 : m3 ≤ 1000000000 := by rw [hp3.len]; have := hg3.len; omega
          have hdeg := pdegree_ok wr _ A3 m3 c3 neqs[j] hp3 hg3.exps hm3
          clear hxw hm3
          by_cases hd1 : pdeg neqs[j] = -1
          · have HE1 : Hid (Y ++ ((neqs.take (j + 1)).filter (fun p => decide (pdeg p = -1))).map (fun _ => oneP) = Q1 ++ [oneP]) := Lib.hid (by rw [HN1.out, ← HQ1.out]; simp [hd1])
            have HE2 : Hid ((neqs.take (j + 1)).filter (fun p => decide (pdeg p ≠ -1 ∧ pdeg p ≠ 0)) = P2) := Lib.hid (by rw [HN2.out]; simp [hd1])
            rw [hd1] at hdeg
            clear hd1
            go_wp2_with fail
            refine hdeg.mono ?_; rintro e w1 ⟨X5, D5, rfl, rfl⟩
            go_wp2_with fail
            refine (whole_ok _ (own (.slice yA Q1.length yc) ++ (own (.slice zA P2.length zc) ++ ex1)) 1 (by omega) (by omega) (fun b hb => by have := hexx b hb; simp; omega)).mono ?_; rintro e w1 ⟨s5, A5, n5, c5, s6, A6, n6, c6, X6, D6, rfl, rfl, h6⟩
            go_wp2_with fail
            refine (pconstant_ok _ (own (.slice yA Q1.length yc) ++ (own (.slice zA P2.length zc) ++ ex1)) s5 A5 n5 c5 s6 A6 n6 c6 _ h6 (fun b hb => by have := hexx b hb; simp; omega)).mono ?_; rintro e w1 ⟨A7, n7, c7, X7, D7, rfl, rfl, h7⟩
            have h7' : RP _ _ A7 n7 c7 oneP := h7
            go_wp2_with (at_builtin; refine wpList_append_elt2 poE _ rfl _ _ 25 rfl Tryz.underlying25 B (own (.slice zA P2.length zc) ++ ex1) (.slice yA Q1.length yc) Q1 rfl (hyes.keep (by repeat first | with_reducible exact .refl .. | with_reducible assumption | refine .s ?_ ?_ | refine .m ?_ ?_ | refine .l ?_ ?_ | refine .d ?_ | refine .e ?_ | (simp <;> omega) | omega)) _ _ rfl oneP [.slice A7 n7 c7] (cell_new _ _ _ _ (by simp)) (by intro hh; have := hexx _ hh; omega) ⟨A7, n7, c7, rfl, h7'.mono (Kr.of_below (by repeat first | with_reducible exact .refl .. | with_reducible assumption | refine .s ?_ ?_ | refine .m ?_ ?_ | refine .l ?_ ?_ | refine .d ?_ | refine .e ?_ | (simp <;> omega) | omega) _)⟩ (by omega) (by simp; omega) ?_; intro v' w1 hown1 hkr1 hown2 hbl1; have hbx1 := hbl1 _ _ (show Below B W0 _ from (by repeat first | with_reducible exact .refl .. | with_reducible assumption | refine .s ?_ ?_ | refine .m ?_ ?_ | refine .l ?_ ?_ | refine .d ?_ | refine .e ?_ | (simp <;> omega) | omega)) (Nat.le_refl _))
            go_wp2_with fail
            go_roundw
            case rel => 
              refine ⟨j + 1, by omega, by go_num, by rw [HE1.out]; exact hown1, by rw [HE2.out]; exact (hno.keep (by repeat first | with_reducible exact .refl .. | with_reducible assumption | refine .s ?_ ?_ | refine .m ?_ ?_ | refine .l ?_ ?_ | refine .d ?_ | refine .e ?_ | (simp <;> omega) | omega)).beside hkr1 (fun b hb hb' => hdis b hb' hb), ?_, hbx1⟩
              intro b hb hb'
              rcases hown2 b hb with hh | hh
              · exact hdis b hh hb'
              · have := (hnle b hb').2; simp at hh; omega
            case measure => simp [intOf]; omega
          · by_cases hd2 : pdeg neqs[j] = 0
            · have HE1 : Hid (Y ++ ((neqs.take (j + 1)).filter (fun p => decide (pdeg p = -1))).map (fun _ => oneP) = Q1) := Lib.hid (by rw [HN1.out, ← HQ1.out]; simp [hd2])
              have HE2 : Hid ((neqs.take (j + 1)).filter (fun p => decide (pdeg p ≠ -1 ∧ pdeg p ≠ 0)) = P2) := Lib.hid (by rw [HN2.out]; simp [hd2])
              rw [hd2] at hdeg
              clear hd1 hd2
              go_wp2_with fail
              refine hdeg.mono ?_; rintro e w1 ⟨X5, D5, rfl, rfl⟩
              go_wp2_with fail
              go_roundw
              case rel => exact ⟨j + 1, by omega, by go_num, by rw [HE1.out]; exact hyes.keep (by repeat first | with_reducible exact .refl .. | with_reducible assumption | refine .s ?_ ?_ | refine .m ?_ ?_ | refine .l ?_ ?_ | refine .d ?_ | refine .e ?_ | (simp <;> omega) | omega), by rw [HE2.out]; exact hno.keep (by repeat first | with_reducible exact .refl .. | with_reducible assumption | refine .s ?_ ?_ | refine .m ?_ ?_ | refine .l ?_ ?_ | refine .d ?_ | refine .e ?_ | (simp <;> omega) | omega), hdis, (by repeat first | with_reducible exact .refl .. | with_reducible assumption | refine .s ?_ ?_ | refine .m ?_ ?_ | refine .l ?_ ?_ | refine .d ?_ | refine .e ?_ | (simp <;> omega) | omega)⟩
              case measure => simp [intOf]; omega
            · have HE1 : Hid (Y ++ ((neqs.take (j + 1)).filter (fun p => decide (pdeg p = -1))).map (fun _ => oneP) = Q1) := Lib.hid (by rw [HN1.out, ← HQ1.out]; simp [hd1])
              have HE2 : Hid ((neqs.take (j + 1)).filter (fun p => decide (pdeg p ≠ -1 ∧ pdeg p ≠ 0)) = P2 ++ [neqs[j]]) := Lib.hid (by rw [HN2.out]; simp [hd1, hd2])
              obtain ⟨dg, hdg⟩ : ∃ x, pdeg neqs[j] = x := ⟨_, rfl⟩
              rw [hdg] at hdeg hd1 hd2
              clear hdg
              have hd1' : (dg == -1) = false := by simpa using hd1
              have hd2' : (dg == 0) = false := by simpa using hd2
              have hexx2 : ∀ b ∈ own (.slice zA P2.length zc) ++ (own (.slice yA Q1.length yc) ++ ex1), b < wr.heap.size := fun b hb => hexx b (by simp only [List.mem_append] at hb ⊢; grind)
              have hp4 := hp3.mono (ex' := own (.slice zA P2.length zc) ++ (own (.slice yA Q1.length yc) ++ ex1)) ((Kr.refl _ _).sub (by intro b hb; simp only [List.mem_append] at hb ⊢; grind))
              go_wp2_with fail
              refine hdeg.mono ?_; rintro e w1 ⟨X5, D5, rfl, rfl⟩
              go_wp2_with (at_builtin; refine wpList_append_elt2 poE _ rfl _ _ 25 rfl Tryz.underlying25 B (own (.slice yA Q1.length yc) ++ ex1) (.slice zA P2.length zc) P2 rfl (hno.keep (by repeat first | with_reducible exact .refl .. | with_reducible assumption | refine .s ?_ ?_ | refine .m ?_ ?_ | refine .l ?_ ?_ | refine .d ?_ | refine .e ?_ | (simp <;> omega) | omega)) _ _ rfl neqs[j] [.slice A3 m3 c3] (cell_new _ _ _ _ (by simp)) (by intro hh; have := hexx2 _ hh; omega) ⟨A3, m3, c3, rfl, hp4.mono (Kr.of_below (by repeat first | with_reducible exact .refl .. | with_reducible assumption | refine .s ?_ ?_ | refine .m ?_ ?_ | refine .l ?_ ?_ | refine .d ?_ | refine .e ?_ | (simp <;> omega) | omega) _)⟩ (by omega) (by simp; omega) ?_; intro v' w1 hown1 hkr1 hown2 hbl1; have hbx1 := hbl1 _ _ (show Below B W0 _ from (by repeat first | with_reducible exact .refl .. | with_reducible assumption | refine .s ?_ ?_ | refine .m ?_ ?_ | refine .l ?_ ?_ | refine .d ?_ | refine .e ?_ | (simp <;> omega) | omega)) (Nat.le_refl _))
              go_wp2_with fail
              go_roundw
              case rel =>
                refine ⟨j + 1, by omega, by go_num, by rw [HE1.out]; exact (hyes.keep (by repeat first | with_reducible exact .refl .. | with_reducible assumption | refine .s ?_ ?_ | refine .m ?_ ?_ | refine .l ?_ ?_ | refine .d ?_ | refine .e ?_ | (simp <;> omega) | omega)).beside hkr1 hdis, by rw [HE2.out]; exact hown1, ?_, hbx1⟩
                intro b hb hb'
                rcases hown2 b hb' with hh | hh
                · exact hdis b hb hh
                · have := (hyle b hb).2; simp at hh; omega
              case measure => simp [intOf]; omega
        · obtain rfl : j = n2 := by omega
          rw [List.take_of_length_le (by rw [← HL2.out]; exact Nat.le_refl _)] at hyes hno hyle hnle hyc hzc hdis hlen9 hlen10 ⊢
          clear hlt hj
          have HQ : Hid (yesL eqs neqs = Y ++ (neqs.filter (fun p => decide (pdeg p = -1))).map (fun _ => oneP)) := Lib.hid (by unfold yesL; rw [HYe.out])
          have HR : Hid (noL neqs = neqs.filter (fun p => decide (pdeg p ≠ -1 ∧ pdeg p ≠ 0))) := Lib.hid rfl
          rw [← HQ.out] at hyes hyle hyc hdis hlen9 hno ⊢
          rw [← HR.out] at hno hnle hzc hdis hlen10 hyes ⊢
          clear HQ HR HYe
          generalize yesL eqs neqs = Q1 at *
          generalize noL neqs = P2 at *
          have hr1 := (hyes.read' (fun b hb hh => by
            rcases List.mem_append.1 hh with hh | hh
            · exact hdis b hb hh
            · have := hex1 b hh; have := (hyle b hb).1; omega)).mono (ex' := ex1) ((Kr.refl _ _).sub (by intro b hb; simp [hb]))
          have hr2 := (hno.read' (fun b hb hh => by
            rcases List.mem_append.1 hh with hh | hh
            · exact hdis b hh hb
            · have := hex1 b hh; have := (hnle b hb).1; omega)).mono (ex' := ex1) ((Kr.refl _ _).sub (by intro b hb; simp [hb]))
          have f0 := (Below.at0 hb (show w.heap.size < B by omega) 0).trans x0
          have g0 := (Below.at0 hb (show w.heap.size + 1 < B by omega) 0).trans y0
          have g1 := (Below.at0 hb (show w.heap.size + 1 < B by omega) 1).trans y1
          have g2 := (Below.at0 hb (show w.heap.size + 1 < B by omega) 2).trans y2
          have k0 := (hb.frozen (p := ⟨w.heap.size + 1, 0, none⟩) (show w.heap.size + 1 < B by omega)).trans z0
          have k1 := (hb.frozen (p := ⟨w.heap.size + 1, 1, none⟩) (show w.heap.size + 1 < B by omega)).trans z1
          have k2 := (hb.frozen (p := ⟨w.heap.size + 1, 2, none⟩) (show w.heap.size + 1 < B by omega)).trans z2
          clear hyes hno hyle hnle hdis x0 y0 y1 y2 z0 z1 z2
          go_wp2_with fail
          go_cut [15] (fun v15 w' => ∃ b15 A n' c A' n'' c', v15 = .pointer (some ⟨b15, 0, none⟩) ∧ Below wr.heap.size wr w' ∧ wr.heap.size ≤ b15 ∧ b15 < w'.heap.size ∧ w'.cell? ⟨b15, 0, none⟩ = some (.int .i64 n) ∧ w'.cell? ⟨b15, 1, none⟩ = some (.slice A n' c) ∧ w'.cell? ⟨b15, 2, none⟩ = some (.slice A' n'' c') ∧ RL poE w' ex1 A n' c (tidyP Q1) ∧ RL poE w' ex1 A' n'' c' (tidyP P2))
          case first =>
            go_region_held3 (fun w' => w'.cell? ⟨w.heap.size, 0, none⟩ = some (.int .i64 n))
              ((repeat' apply And.intro) <;> first | (simp [*, go_sem, ↓IntWalk.iteOmega]; done) | (refine got_of ?_; simp [*, go_sem, ↓IntWalk.iteOmega]; done))
              (first | (go_at_call_of 49 yA; refine (tidy_ok _ (FrW wr.heap.size _ ++ ex1) yA Q1.length yc Q1 (hr1.mono (FrW.kr (by repeat first | with_reducible exact .refl .. | with_reducible assumption | refine .s ?_ ?_ | refine .m ?_ ?_ | refine .l ?_ ?_ | refine .d ?_ | refine .e ?_ | (simp <;> omega) | omega))) M hM hM2 HY1.out (by omega) (FrW.hex hex1 (by first | (simp; done) | (simp; omega) | omega))).mono ?_; rintro e w' ⟨A5, n5, c5, X5, D5, rfl, rfl, h5⟩) | (go_at_call_of 49 zA; refine (tidy_ok _ (FrW wr.heap.size _ ++ ex1) zA P2.length zc P2 (hr2.mono (FrW.kr (by repeat first | with_reducible exact .refl .. | with_reducible assumption | refine .s ?_ ?_ | refine .m ?_ ?_ | refine .l ?_ ?_ | refine .d ?_ | refine .e ?_ | (simp <;> omega) | omega))) M hM hM2 HY2.out (by omega) (FrW.hex hex1 (by first | (simp; done) | (simp; omega) | omega))).mono ?_; rintro e w' ⟨A6, n6, c6, X6, D6, rfl, rfl, h6⟩))
            all_goals (rename_i hHeldZ; clear hHeldZ)
            all_goals
              go_wp2_with fail
              go_meet
              case rel => exact ⟨_, A5, n5, c5, A6, n6, c6, rfl, (by repeat first | with_reducible exact .refl .. | with_reducible assumption | refine .s ?_ ?_ | refine .m ?_ ?_ | refine .l ?_ ?_ | refine .d ?_ | refine .e ?_ | (simp <;> omega) | omega), (by first | (simp; done) | (simp; omega) | omega), (by first | (simp; done) | (simp; omega) | omega), by simp [go_sem, ↓IntWalk.iteOmega], by simp [go_sem, ↓IntWalk.iteOmega], by simp [go_sem, ↓IntWalk.iteOmega], h5.mono (KB.kr (by repeat (first | (with_reducible exact KB.refl _ _ _) | refine KB.setCell ?_ _ (by first | (simp; done) | (simp; omega) | omega) | refine KB.more ?_ _ _ | refine KB.alloc ?_ _ | refine KB.drew ?_ | refine KB.drewN ?_ _))), h6.mono (KB.kr (by repeat (first | (with_reducible exact KB.refl _ _ _) | refine KB.setCell ?_ _ (by first | (simp; done) | (simp; omega) | omega) | refine KB.more ?_ _ _ | refine KB.alloc ?_ _ | refine KB.drew ?_ | refine KB.drewN ?_ _)))⟩
          case rest =>
            obtain ⟨b15, A, n', c, A', n'', c', rfl, hB2, hb1, hb2, j0, j1, j2, l1, l2⟩ := hcut
            have hs1 := hB2.size
            have p0 := (Below.at0 hB2 (show w.heap.size + 1 < wr.heap.size by omega) 0).trans g0
            have p1 := (Below.at0 hB2 (show w.heap.size + 1 < wr.heap.size by omega) 1).trans g1
            have p2 := (Below.at0 hB2 (show w.heap.size + 1 < wr.heap.size by omega) 2).trans g2
            have q0 := (hB2.frozen (p := ⟨w.heap.size + 1, 0, none⟩) (show w.heap.size + 1 < wr.heap.size by omega)).trans k0
            have q1 := (hB2.frozen (p := ⟨w.heap.size + 1, 1, none⟩) (show w.heap.size + 1 < wr.heap.size by omega)).trans k1
            have q2 := (hB2.frozen (p := ⟨w.heap.size + 1, 2, none⟩) (show w.heap.size + 1 < wr.heap.size by omega)).trans k2
            have hbz : Below w.heap.size w wc := hbw.trans (hB2.mono (by omega))
            have hne : b15 ≠ w.heap.size + 1 := by omega
            have hne' : w.heap.size + 1 ≠ b15 := by omega
            have L1 := Lib.hid l1.len
            have L2 := Lib.hid l2.len
            clear g0 g1 g2 k0 k1 k2 hr1 hr2 f0
            by_cases h12 : 12 < n'
            · have h12' : (12 : Int) < (n' : Int) := by omega
              go_wp2_with fail
              refine bodyPost_ret (v := .tuple #[.agg #[.int .i64 0, .slice none 0 0, .slice none 0 0], .int .i64 2]) (by simp [results, Tryz.results12, p0, p1, p2, go_sem, ↓IntWalk.iteOmega]) rfl ?_
              refine RetN.big (Or.inl (by rw [← L1.out]; exact h12)) ?_
              exact RetC.mk rfl (by repeat first | with_reducible exact .refl .. | with_reducible assumption | refine .s ?_ ?_ | refine .m ?_ ?_ | refine .l ?_ ?_ | refine .d ?_ | refine .e ?_ | (simp <;> omega) | omega) (RL.nil _ _ _ _) (RL.nil _ _ _ _)
            · have h12' : ¬ (12 : Int) < (n' : Int) := by omega
              by_cases h13 : 12 < n''
              · have h13' : (12 : Int) < (n'' : Int) := by omega
                go_wp2_with fail
                refine bodyPost_ret (v := .tuple #[.agg #[.int .i64 0, .slice none 0 0, .slice none 0 0], .int .i64 2]) (by simp [results, Tryz.results12, p0, p1, p2, go_sem, ↓IntWalk.iteOmega]) rfl ?_
                refine RetN.big (Or.inr (by rw [← L2.out]; exact h13)) ?_
                exact RetC.mk rfl (by repeat first | with_reducible exact .refl .. | with_reducible assumption | refine .s ?_ ?_ | refine .m ?_ ?_ | refine .l ?_ ?_ | refine .d ?_ | refine .e ?_ | (simp <;> omega) | omega) (RL.nil _ _ _ _) (RL.nil _ _ _ _)
              · have h13' : ¬ (12 : Int) < (n'' : Int) := by omega
                go_wp2_with fail
                refine bodyPost_ret (v := .tuple #[.agg #[.int .i64 n, .slice A n' c, .slice A' n'' c'], .int .i64 0]) (by simp [results, Tryz.results12, p0, p1, p2, go_sem, ↓IntWalk.iteOmega]) rfl ?_
                refine RetN.ok (by rw [← L1.out, ← L2.out]; omega) ?_
                refine RetC.mk rfl (by repeat first | with_reducible exact .refl .. | with_reducible assumption | refine .s ?_ ?_ | refine .m ?_ ?_ | refine .l ?_ ?_ | refine .d ?_ | refine .e ?_ | (simp <;> omega) | omega) (l1.mono ?_) (l2.mono ?_)
                · rw [HE0.out]; exact Kr.down (by repeat (first | (with_reducible exact Kr.refl _ _) | (with_reducible assumption) | refine Kr.setCell ?_ _ (by simp) | refine Kr.more ?_ _ _ | refine Kr.alloc_ ?_ _ | refine Kr.drew ?_ | refine Kr.drewN ?_ _)) (by first | (intro b hb; simp [hb]; done) | (intro b hb; exact hb) | (intro b hb; simp at hb ⊢; grind))
                · rw [HE0.out]; exact Kr.down (by repeat (first | (with_reducible exact Kr.refl _ _) | (with_reducible assumption) | refine Kr.setCell ?_ _ (by simp) | refine Kr.more ?_ _ _ | refine Kr.alloc_ ?_ _ | refine Kr.drew ?_ | refine Kr.drewN ?_ _)) (by first | (intro b hb; simp [hb]; done) | (intro b hb; exact hb) | (intro b hb; simp at hb ⊢; grind))

end Go.Proofs.YthhdleppkggepaaGreat
