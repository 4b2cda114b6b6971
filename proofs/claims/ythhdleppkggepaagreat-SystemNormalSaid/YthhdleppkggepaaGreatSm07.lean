/-
  The walks of the reference of package polynomial: polynomials that raw numbers describe.
-/
import Derived.Test.YthhdleppkggepaaGreatSb23
import Derived.Test.YthhdleppkggepaaGreatSb29
import Derived.Test.YthhdleppkggepaaGreatSb30
import Derived.Test.YthhdleppkggepaaGreatSb19
import Derived.Test.YthhdleppkggepaaGreatSm03

set_option linter.unusedSimpArgs false
set_option linter.unusedVariables false
set_option linter.unusedSectionVars false

namespace Go.Proofs.YthhdleppkggepaaGreat
open Go.RowKit Go.Deep
set_option maxRecDepth 100000

/-- A row of raw numbers. -/
def rwRd (_ : World) (_ : List Nat) (r : List Int) (vs : List Value) : Prop :=
  ∃ a b c d e : Int, r = [a, b, c, d, e] ∧ vs = [.int .i8 a, .int .i8 b, .int .i8 c, .int .i8 d, .int .i8 e] ∧ ∀ x ∈ r, -128 ≤ x ∧ x ≤ 127
theorem infoRow : (Tryz.prog.info? 139).map (fun i => (i.zero, i.size, i.bytes)) = some (some (.agg #[.int .i8 0, .int .i8 0, .int .i8 0, .int .i8 0, .int .i8 0]), 5, 5) := by kernel_rfl
def rwE : Elt (List Int) where
  ty := 139
  size := 5
  bytes := 5
  rd := rwRd
  pos := by decide
  few := by decide
  mono := by intro w w' ex ex' x vs k h; exact h
  len := by rintro w ex x vs ⟨a, b, c, d, e, rfl, rfl, _⟩; rfl
  one := by
    rintro w ex x vs ⟨a, b, c, d, e, rfl, rfl, _⟩ u hu
    simp only [List.mem_cons, List.not_mem_nil, or_false] at hu
    rcases hu with rfl | rfl | rfl | rfl | rfl <;> rfl
  info := by
    obtain ⟨i, h1, h2, h3, h4⟩ := info_parts infoRow
    exact ⟨i, _, h1, h2, h3, h4, rfl⟩
theorem RL.rowAt {w : World} {ex : List Nat} {b o n c : Nat} {l : List (List Int)} (h : RL rwE w ex (some ⟨b, o, none⟩) n c l) {k : Nat} (hk : k < l.length) {i : Nat} (hi : i < 5) :
    w.cell? ⟨b, o + k * 5 + i, none⟩ = some (.int .i8 (l[k].getD i 0)) ∧ -128 ≤ l[k].getD i 0 ∧ l[k].getD i 0 ≤ 127 := by
  obtain ⟨b', o', e, _, _, ht⟩ := h.at_ (by rw [h.len]; omega)
  cases e
  obtain ⟨vs, ⟨x0, x1, x2, x3, x4, h1, h2, h3⟩, hc⟩ := ht k hk
  rw [h1] at h3 ⊢
  subst h2
  have hc' : ∀ j u, [Value.int .i8 x0, .int .i8 x1, .int .i8 x2, .int .i8 x3, .int .i8 x4][j]? = some u → w.cell? ⟨b, o + k * 5 + j, none⟩ = some u := hc
  match i, hi with
  | 0, _ => exact ⟨hc' 0 _ rfl, h3 x0 (by simp)⟩
  | 1, _ => exact ⟨hc' 1 _ rfl, h3 x1 (by simp)⟩
  | 2, _ => exact ⟨hc' 2 _ rfl, h3 x2 (by simp)⟩
  | 3, _ => exact ⟨hc' 3 _ rfl, h3 x3 (by simp)⟩
  | 4, _ => exact ⟨hc' 4 _ rfl, h3 x4 (by simp)⟩
theorem RL.some' {α : Type} {E : Elt α} {w : World} {ex : List Nat} {A : Option Addr} {n c : Nat} {l : List α} (h : RL E w ex A n c l) (h0 : 0 < n) : ∃ b o, A = some ⟨b, o, none⟩ ∧ b ∉ ex ∧ b < w.heap.size := by
  obtain ⟨b', o', e, h1, h2, ht⟩ := h.at_ h0
  exact ⟨b', o', e, h1, h2⟩

set_option maxHeartbeats 1000000 in
theorem r6abs_ok (w : World) (x : Int) (h1 : -128 ≤ x) (h2 : x ≤ 127) : Calls Tryz.prog 87 #[.int .i8 x] w (RetV w (.int .i64 (x.natAbs : Int))) := by
  by_cases h0 : x < 0
  · have hw1 : IntKind.i64.wrap x = x := by simp [IntKind.wrap, IntKind.bits, IntKind.signed]; omega
    have hw2 : IntKind.i64.wrap (-x) = -x := by simp [IntKind.wrap, IntKind.bits, IntKind.signed]; omega
    have HE : Hid ((x.natAbs : Int) = -x) := Lib.hid (by omega)
    go_enter Tryz.func87, Tryz.ntmps87
    go_wp2_with fail
    go_ret
    rw [HE.out]
    exact RetV.mk rfl (by repeat first | with_reducible exact .refl .. | with_reducible assumption | refine .s ?_ ?_ | refine .m ?_ ?_ | refine .l ?_ ?_ | refine .d ?_ | refine .e ?_ | (simp <;> omega) | omega)
  · have hw1 : IntKind.i64.wrap x = x := by simp [IntKind.wrap, IntKind.bits, IntKind.signed]; omega
    have HE : Hid ((x.natAbs : Int) = x) := Lib.hid (by omega)
    go_enter Tryz.func87, Tryz.ntmps87
    go_wp2_with fail
    go_ret
    rw [HE.out]
    exact RetV.mk rfl (by repeat first | with_reducible exact .refl .. | with_reducible assumption | refine .s ?_ ?_ | refine .m ?_ ?_ | refine .l ?_ ?_ | refine .d ?_ | refine .e ?_ | (simp <;> omega) | omega)

theorem rp_one {w : World} {ex : List Nat} {g : Nat} {s3 : Bool} {A3 : Option Addr} {n3 c3 : Nat} {s4 : Bool} {A4 : Option Addr} {n4 c4 : Nat} {q : Rat} {e0 e1 e2 e3 e4 e5 e6 e7 : Int} (hg : g ∉ ex) (hl : g < w.heap.size)
    (h0 : w.cell? ⟨g, 0, none⟩ = some (.bool s3)) (h1 : w.cell? ⟨g, 1, none⟩ = some (.slice A3 n3 c3)) (h2 : w.cell? ⟨g, 2, none⟩ = some (.bool s4)) (h3 : w.cell? ⟨g, 3, none⟩ = some (.slice A4 n4 c4))
    (h4 : w.cell? ⟨g, 4, none⟩ = some (.int .i64 e0)) (h5 : w.cell? ⟨g, 5, none⟩ = some (.int .i64 e1)) (h6 : w.cell? ⟨g, 6, none⟩ = some (.int .i64 e2)) (h7 : w.cell? ⟨g, 7, none⟩ = some (.int .i64 e3))
    (h8 : w.cell? ⟨g, 8, none⟩ = some (.int .i64 e4)) (h9 : w.cell? ⟨g, 9, none⟩ = some (.int .i64 e5)) (h10 : w.cell? ⟨g, 10, none⟩ = some (.int .i64 e6)) (h11 : w.cell? ⟨g, 11, none⟩ = some (.int .i64 e7))
    (hq : RQ w ex s3 A3 n3 c3 s4 A4 n4 c4 q) : RP w ex (some ⟨g, 0, none⟩) 1 1 [(q, [e0, e1, e2, e3, e4, e5, e6, e7])] := by
  refine ⟨rfl, Nat.le_refl _, fun _ => ⟨g, 0, rfl, hg, hl, fun i hi => ?_⟩⟩
  obtain rfl : i = 0 := by simp at hi; omega
  exact ⟨s3, A3, n3, c3, s4, A4, n4, c4, e0, e1, e2, e3, e4, e5, e6, e7, by simpa using h0, by simpa using h1, by simpa using h2, by simpa using h3, by simpa using h4, by simpa using h5, by simpa using h6, by simpa using h7, by simpa using h8, by simpa using h9, by simpa using h10, by simpa using h11, hq, rfl⟩
theorem raw8 {l : List Int} (h : l.length = 8) : ∃ e0 e1 e2 e3 e4 e5 e6 e7 : Int, l = [e0, e1, e2, e3, e4, e5, e6, e7] := by
  match l, h with
  | [a, b, c, d, e, f, g, i], _ => exact ⟨a, b, c, d, e, f, g, i, rfl⟩
theorem madeP_step {n : Nat} {deg : Int} {rows : List (List Int)} {k : Nat} (hk : k < rows.length) {m : List Int} (hm : (mkE deg rows[k] (min n 4)).1 = m) {z : Int} (hz : (rows[k].getD 0 0).tmod 4 = z) :
    madeP n deg (rows.take (k + 1)) = addP (madeP n deg (rows.take k)) (timesP ((z : Int) : Rat) mono0 [(((1 : Int) : Rat), m)]) := by
  rw [List.take_succ_eq_append_getElem hk, madeP_snoc]
  unfold madeT madeM madeC
  rw [hm, hz]; rfl

set_option maxHeartbeats 8000000 in
theorem r6made_ok (w : World) (ex : List Nat) (A : Option Addr) (m c : Nat) (rows : List (List Int)) (n deg terms : Nat) (hx : RL rwE w ex A m c rows) (hn : n ≤ 1000) (hd : deg ≤ 65535) (ht : terms ≤ 100) (hex : ∀ b ∈ ex, b < w.heap.size) :
    Calls Tryz.prog 42 #[.agg #[.slice A m c], .int .i64 n, .int .i64 deg, .int .i64 terms] w (RetP w ex (madeP n deg (rows.take terms))) := by
  have HL := Lib.hid hx.len
  have hcap := hx.cap
  have HX := Lib.hid hx
  have HSB := fun k => madeP_sb n (deg := (deg : Int)) (by omega) (by omega) rows k
  have HS := Lib.hid HSB
  have HMK := fun r => mkE_ok (deg : Int) r (by omega) (by omega)
  have HM := Lib.hid HMK
  clear hx HSB HMK
  obtain ⟨W0, hW0⟩ : ∃ W, W = w.alloc (.cells #[.slice A m c] 93) := ⟨_, rfl⟩
  have x0 : W0.cell? ⟨w.heap.size, 0, none⟩ = some (.slice A m c) := by rw [hW0]; simp [go_sem, ↓IntWalk.iteOmega]
  have hS0 : W0.heap.size = w.heap.size + 1 := by rw [hW0]; simp
  have hB0 : Below w.heap.size w W0 := by rw [hW0]; exact (by repeat first | with_reducible exact .refl .. | with_reducible assumption | refine .s ?_ ?_ | refine .m ?_ ?_ | refine .l ?_ ?_ | refine .d ?_ | refine .e ?_ | (simp <;> omega) | omega)
  have HW0 := Lib.hid hW0
  have HS0 := Lib.hid hS0
  clear hW0 hS0
  go_enter Tryz.func42, Tryz.ntmps42
  go_wp2_with fail
  go_loopw [9, 10] (fun v i wr => ∃ (k : Nat) (A9 : Option Addr) (n9 c9 : Nat), k ≤ m ∧ k ≤ terms ∧ i = .int .i64 k ∧ v = .slice A9 n9 c9 ∧ RP wr ex A9 n9 c9 (madeP n deg (rows.take k)) ∧ Below (w.heap.size + 1) W0 wr) (fun _ i _ => m - (intOf i).toNat)
  case atStart => exact ⟨0, _, 0, 0, Nat.zero_le _, Nat.zero_le _, rfl, rfl, RP.nil _ _ _ _, by rw [HW0.out]; exact (by repeat first | with_reducible exact .refl .. | with_reducible assumption | refine .s ?_ ?_ | refine .m ?_ ?_ | refine .l ?_ ?_ | refine .d ?_ | refine .e ?_ | (simp <;> omega) | omega)⟩
  case round =>
    obtain ⟨k, A9, n9, c9, hk, hkt, rfl, rfl, hp, hb⟩ := hrel
    have hsz := hb.size
    have hszw : w.heap.size < wr.heap.size := by have := HS0.out; omega
    have x0r := (Below.at0 hb (show w.heap.size < w.heap.size + 1 by omega) 0).trans x0
    have hbw : Below w.heap.size w wr := hB0.trans (hb.mono (by omega))
    by_cases hlt : k < m ∧ k < terms
    · obtain ⟨hkm, hkt'⟩ := hlt
      have hkl : k < rows.length := by rw [← HL.out]; exact hkm
      obtain ⟨b, o, rfl, hbx, hbl⟩ := HX.out.some' (by omega)
      have hi1 : (k : Int) < (m : Int) := by omega
      have hi2 : (k : Int) < (terms : Int) := by omega
      have HSk := Lib.hid (HS.out k)
      have HPl := Lib.hid hp.len
      have HMD := fun m hm z hz => Lib.hid (madeP_step (n := n) (deg := (deg : Int)) hkl (m := m) hm (z := z) hz)
      obtain ⟨P, hP⟩ : ∃ P, madeP n deg (rows.take k) = P := ⟨_, rfl⟩
      rw [hP] at hp HSk HPl
      simp only [hP] at HMD
      clear hP
      obtain ⟨wo, hwo⟩ : ∃ x, x = wr := ⟨_, rfl⟩
      subst hwo
      go_wp2_with fail
      obtain ⟨g, hg⟩ : ∃ g, g = wo.heap.size := ⟨_, rfl⟩
      refine wp_abs (fun W1 => Below (w.heap.size + 1) W0 W1 ∧ Below g wo W1 ∧ g < W1.heap.size ∧ Cells8 W1 g mono0) ⟨(by repeat first | with_reducible exact .refl .. | with_reducible assumption | refine .s ?_ ?_ | refine .m ?_ ?_ | refine .l ?_ ?_ | refine .d ?_ | refine .e ?_ | (simp <;> omega) | omega), by rw [hg]; exact (by repeat first | with_reducible exact .refl .. | with_reducible assumption | refine .s ?_ ?_ | refine .m ?_ ?_ | refine .l ?_ ?_ | refine .d ?_ | refine .e ?_ | (simp <;> omega) | omega), by rw [hg]; exact (by first | (simp; done) | (simp; omega) | omega), ?_⟩ ?_
      · rw [hg]
        intro j hj
        match j, hj with
        | 0, _ | 1, _ | 2, _ | 3, _ | 4, _ | 5, _ | 6, _ | 7, _ => exact ⟨by simp [mono0, go_sem, ↓IntWalk.iteOmega], by simp [go_sem, ↓IntWalk.iteOmega]⟩
      rw [← hg]
      rintro W1 ⟨hb1, hbr1, hsz1, hC1⟩
      have hgw : w.heap.size < g := by omega
      have HG := Lib.hid hg
      clear hb hg
      go_loopw [12, 13] (fun l i wi => ∃ j : Nat, j ≤ n ∧ j ≤ 4 ∧ l = .int .i64 (mkE deg rows[k] j).2 ∧ i = .int .i64 j ∧ Cells8 wi g (mkE deg rows[k] j).1 ∧ Below g W1 wi) (fun _ i _ => n - (intOf i).toNat)
      case atStart => exact ⟨0, Nat.zero_le _, Nat.zero_le _, rfl, rfl, hC1, Below.refl _ _⟩
      case round =>
        obtain ⟨j, hjn, hj4, rfl, rfl, hC, hbi⟩ := hrel
        obtain ⟨wi, hwi⟩ : ∃ x, x = wr := ⟨_, rfl⟩
        subst hwi
        have hszi := hbi.size
        have hbwi : Below (w.heap.size + 1) W0 wi := hb1.trans (hbi.mono (by omega))
        have x0i := (Below.at0 hbwi (show w.heap.size < w.heap.size + 1 by omega) 0).trans x0
        have hxi := HX.out.mono (Kr.of_below (hB0.trans (hbwi.mono (by omega))) ex)
        obtain ⟨hM1, hM2, hM3, hM4⟩ := HM.out rows[k] j
        by_cases hj : j < n ∧ j < 4
        · obtain ⟨hj1, hj2⟩ := hj
          obtain ⟨hcell, hr1, hr2⟩ := hxi.rowAt hkl (i := 1 + j) (by omega)
          have HN1 : Hid ((mkE deg rows[k] (j + 1)).1 = (mkE deg rows[k] j).1.set j (((rows[k].getD (1 + j) 0).natAbs : Int).tmod ((mkE deg rows[k] j).2 + 1))) := Lib.hid (by rw [Int.tmod_eq_emod_of_nonneg (Int.natCast_nonneg _)]; rfl)
          have HN2 : Hid ((mkE deg rows[k] (j + 1)).2 = (mkE deg rows[k] j).2 - (((rows[k].getD (1 + j) 0).natAbs : Int).tmod ((mkE deg rows[k] j).2 + 1))) := Lib.hid (by rw [Int.tmod_eq_emod_of_nonneg (Int.natCast_nonneg _)]; rfl)
          generalize (mkE deg rows[k] j).1 = mm at *
          generalize (mkE deg rows[k] j).2 = ll at *
          generalize rows[k].getD (1 + j) 0 = r at *
          obtain ⟨e, he⟩ : ∃ e, ((r.natAbs : Int)).tmod (ll + 1) = e := ⟨_, rfl⟩
          have he0 : 0 ≤ e := by rw [← he]; exact Int.tmod_nonneg _ (Int.natCast_nonneg _)
          have he1 : e ≤ ll := by have := Int.tmod_lt_of_pos ((r.natAbs : Int)) (show 0 < ll + 1 by omega); omega
          rw [he] at HN1 HN2
          have hw1 : IntKind.i64.wrap (ll + 1) = ll + 1 := by simp [IntKind.wrap, IntKind.bits, IntKind.signed]; omega
          have hw2 : IntKind.i64.wrap (ll - e) = ll - e := by simp [IntKind.wrap, IntKind.bits, IntKind.signed]; omega
          have hw3 : IntKind.i64.wrap (1 + (j : Int)) = ((1 + j : Nat) : Int) := by simp [IntKind.wrap, IntKind.bits, IntKind.signed]; omega
          have hz : ¬ ll + 1 = 0 := by omega
          obtain ⟨hcj, hfj⟩ := hC j (by omega)
          have hj3 : (j : Int) < 4 := by omega
          have hj5 : (j : Int) < (n : Int) := by omega
          have hgi : g < wi.heap.size := by omega
          have hml : mm.length = 8 := hM1
          clear hM1 hM2
          go_wp2_with fail
          refine (r6abs_ok _ r hr1 hr2).mono ?_; rintro e' w1 ⟨X, D, rfl, rfl⟩
          go_wp2_with fail
          go_roundw
          case rel => exact ⟨j + 1, by omega, by omega, by rw [HN2.out], by go_num, by rw [HN1.out]; exact (hC.below (World.below_more wi X D) hgi).set hml (by omega) e, (by repeat first | with_reducible exact .refl .. | with_reducible assumption | refine .s ?_ ?_ | refine .m ?_ ?_ | refine .l ?_ ?_ | refine .d ?_ | refine .e ?_ | (simp <;> omega) | omega)⟩
          case measure => simp [intOf]; omega
        · have hjm : j = min n 4 := by omega
          rw [hjm] at hM1 hM2 hC
          obtain ⟨hcell, hr1, hr2⟩ := hxi.rowAt hkl (i := 0) (by omega)
          obtain ⟨e0, e1, e2, e3, e4, e5, e6, e7, hme⟩ := raw8 hM1
          obtain ⟨z, hz⟩ : ∃ z, (rows[k].getD 0 0).tmod 4 = z := ⟨_, rfl⟩
          have hz1 : z < 4 := by rw [← hz]; exact Int.tmod_lt_of_pos _ (by decide)
          have hz2 : -4 < z := by
            have := Int.tmod_lt_of_pos (-(rows[k].getD 0 0)) (show (0 : Int) < 4 by decide)
            rw [Int.neg_tmod, hz] at this; omega
          have HMk := HMD _ hme z hz
          rw [hme] at hM2 hC
          obtain ⟨r, hr⟩ : ∃ r, rows[k].getD 0 0 = r := ⟨_, rfl⟩
          rw [hr] at hz hcell
          have hcell0 : wi.cell? ⟨b, o + k * 5, none⟩ = some (.int .i8 r) := hcell
          have q0 := (hC 0 (by omega)).1
          have q1 := (hC 1 (by omega)).1
          have q2 := (hC 2 (by omega)).1
          have q3 := (hC 3 (by omega)).1
          have q4 := (hC 4 (by omega)).1
          have q5 := (hC 5 (by omega)).1
          have q6 := (hC 6 (by omega)).1
          have q7 := (hC 7 (by omega)).1
          simp only [List.getD_cons_zero, List.getD_cons_succ] at q0 q1 q2 q3 q4 q5 q6 q7
          have hwz : IntKind.i64.wrap z = z := by simp [IntKind.wrap, IntKind.bits, IntKind.signed]; omega
          have HT0 : Hid (Ty ((z : Int) : Rat)) := Lib.hid ⟨by rw [Rat.num_intCast]; omega, by rw [Rat.den_intCast]; decide⟩
          have HE1 : Hid (PExps [(((1 : Int) : Rat), [e0, e1, e2, e3, e4, e5, e6, e7])]) := Lib.hid (by intro t ht; rw [List.mem_singleton] at ht; subst ht; exact hM2)
          have HT1 : Hid (PTy [(((1 : Int) : Rat), [e0, e1, e2, e3, e4, e5, e6, e7])]) := Lib.hid (by intro t ht; rw [List.mem_singleton] at ht; subst ht; exact (show Ty ((1 : Int) : Rat) from ⟨by decide, by decide⟩))
          have HTP : Hid (PTy P) := Lib.hid (fun t ht => ⟨by have := HSk.out.1.ty t ht; omega, by rw [HSk.out.1.ip t ht]; decide⟩)
          have hn9 : n9 ≤ 1000000000 := by rw [HPl.out]; have := HSk.out.2; omega
          have HT2 : Hid (PTy (timesP ((z : Int) : Rat) mono0 [(((1 : Int) : Rat), [e0, e1, e2, e3, e4, e5, e6, e7])])) := Lib.hid (by
            intro t ht
            unfold timesP at ht
            split at ht
            · cases ht
            · rw [List.map_cons, List.map_nil, List.mem_singleton] at ht
              subst ht
              show Ty (((z : Int) : Rat) * ((1 : Int) : Rat))
              rw [show (((1 : Int) : Rat)) = 1 from rfl, Rat.mul_one]
              exact HT0.out)
          have HL2 : Hid ((timesP ((z : Int) : Rat) mono0 [(((1 : Int) : Rat), [e0, e1, e2, e3, e4, e5, e6, e7])]).length ≤ 1) := Lib.hid (by unfold timesP; split <;> simp)
          have hexi : ∀ b ∈ ex, b < wi.heap.size := fun b hb => by have := hex b hb; omega
          have hpi := hp.mono (Kr.of_below (show Below wo.heap.size wo wi from HG.out ▸ hbr1.trans hbi) ex)
          have hgi : g < wi.heap.size := by omega
          have hgb : b ≠ g := by omega
          have hgb2 : b ≠ w.heap.size := by omega
          clear hM1 hM2 hM3 hM4 hC hcell HMD hme hr
          by_cases hn4 : n ≤ 4
          · obtain rfl : j = n := by omega
            clear hjm hj
            go_wp2_with fail
            go_region_held3 (fun w' => w'.cell? ⟨w.heap.size, 0, none⟩ = some (.slice (some ⟨b, o, none⟩) m c) ∧ w'.cell? ⟨b, o + k * 5, none⟩ = some (.int .i8 r) ∧ w'.cell? ⟨g, 0, none⟩ = some (.int .i64 e0) ∧ w'.cell? ⟨g, 0 + 1, none⟩ = some (.int .i64 e1) ∧ w'.cell? ⟨g, 0 + 2, none⟩ = some (.int .i64 e2) ∧ w'.cell? ⟨g, 0 + 3, none⟩ = some (.int .i64 e3) ∧ w'.cell? ⟨g, 0 + 4, none⟩ = some (.int .i64 e4) ∧ w'.cell? ⟨g, 0 + 5, none⟩ = some (.int .i64 e5) ∧ w'.cell? ⟨g, 0 + 6, none⟩ = some (.int .i64 e6) ∧ w'.cell? ⟨g, 0 + 7, none⟩ = some (.int .i64 e7))
              ((repeat' apply And.intro) <;> first | (simp [*, go_sem, ↓IntWalk.iteOmega]; done) | (refine got_of ?_; simp [*, go_sem, ↓IntWalk.iteOmega]; done))
              (first | (go_at_call_of 26 z; refine (r2whole_ok _ ex z (by omega) (by omega) (fun b hb => Nat.lt_of_lt_of_le (hexi b hb) (by first | (simp; done) | (simp; omega) | omega))).mono ?_; rintro e w' ⟨s1, A1, n1, c1, s2, A2, n2, c2, X5, D5, rfl, rfl, hqz⟩) | (go_at_call 26; refine (r2whole_ok _ ex 1 (by omega) (by omega) (fun b hb => Nat.lt_of_lt_of_le (hexi b hb) (by first | (simp; done) | (simp; omega) | omega))).mono ?_; rintro e w' ⟨s3, A3, n3, c3, s4, A4, n4, c4, X6, D6, rfl, rfl, hq1⟩) | (go_at_call 84; refine (r6scale_ok _ ex s1 A1 n1 c1 s2 A2 n2 c2 ((z : Int) : Rat) (some ⟨_, 0, none⟩) 1 1 [(((1 : Int) : Rat), [e0, e1, e2, e3, e4, e5, e6, e7])] (hqz.mono (Kr.of_below (by repeat first | with_reducible exact .refl .. | with_reducible assumption | refine .s ?_ ?_ | refine .m ?_ ?_ | refine .l ?_ ?_ | refine .d ?_ | refine .e ?_ | (simp <;> omega) | omega) _)) (rp_one (fun hh => absurd (hexi _ hh) (by simp; try omega)) (by first | (simp; done) | (simp; omega) | omega) (by simp [go_sem, ↓IntWalk.iteOmega]) (by simp [go_sem, ↓IntWalk.iteOmega]) (by simp [go_sem, ↓IntWalk.iteOmega]) (by simp [go_sem, ↓IntWalk.iteOmega]) (by simp [go_sem, ↓IntWalk.iteOmega]) (by simp [go_sem, ↓IntWalk.iteOmega]) (by simp [go_sem, ↓IntWalk.iteOmega]) (by simp [go_sem, ↓IntWalk.iteOmega]) (by simp [go_sem, ↓IntWalk.iteOmega]) (by simp [go_sem, ↓IntWalk.iteOmega]) (by simp [go_sem, ↓IntWalk.iteOmega]) (by simp [go_sem, ↓IntWalk.iteOmega]) (hq1.mono (Kr.of_below (by repeat first | with_reducible exact .refl .. | with_reducible assumption | refine .s ?_ ?_ | refine .m ?_ ?_ | refine .l ?_ ?_ | refine .d ?_ | refine .e ?_ | (simp <;> omega) | omega) _))) HE1.out HT0.out HT1.out (by decide) (fun b hb => Nat.lt_of_lt_of_le (hexi b hb) (by first | (simp; done) | (simp; omega) | omega))).mono ?_; rintro e w' ⟨A5, n5, c5, X7, D7, rfl, rfl, h5⟩) | (go_at_call 41; refine (r6add_ok _ ex A9 n9 c9 P A5 n5 c5 _ (hpi.mono (Kr.of_below (by repeat first | with_reducible exact .refl .. | with_reducible assumption | refine .s ?_ ?_ | refine .m ?_ ?_ | refine .l ?_ ?_ | refine .d ?_ | refine .e ?_ | (simp <;> omega) | omega) _)) (h5.mono (Kr.of_below (by repeat first | with_reducible exact .refl .. | with_reducible assumption | refine .s ?_ ?_ | refine .m ?_ ?_ | refine .l ?_ ?_ | refine .d ?_ | refine .e ?_ | (simp <;> omega) | omega) _)) HTP.out HT2.out hn9 (by rw [h5.len]; have := HL2.out; omega) (fun b hb => Nat.lt_of_lt_of_le (hexi b hb) (by first | (simp; done) | (simp; omega) | omega))).mono ?_; rintro e w' ⟨A6, n6, c6, X8, D8, rfl, rfl, h6⟩))
            all_goals (rename_i hHeldZ; clear hHeldZ)
            all_goals
              go_wp2_with fail
              go_roundw
              case rel => exact ⟨k + 1, A6, n6, c6, by omega, by omega, by go_num, rfl, by rw [HMk.out]; exact h6.mono (Kr.of_below (by repeat first | with_reducible exact .refl .. | with_reducible assumption | refine .s ?_ ?_ | refine .m ?_ ?_ | refine .l ?_ ?_ | refine .d ?_ | refine .e ?_ | (simp <;> omega) | omega) _), hbwi.trans ((show Below wi.heap.size wi _ from (by repeat first | with_reducible exact .refl .. | with_reducible assumption | refine .s ?_ ?_ | refine .m ?_ ?_ | refine .l ?_ ?_ | refine .d ?_ | refine .e ?_ | (simp <;> omega) | omega)).mono (by omega))⟩
              case measure => simp [intOf]; omega
          · obtain rfl : j = 4 := by omega
            clear hjm hj
            go_wp2_with fail
            go_region_held3 (fun w' => w'.cell? ⟨w.heap.size, 0, none⟩ = some (.slice (some ⟨b, o, none⟩) m c) ∧ w'.cell? ⟨b, o + k * 5, none⟩ = some (.int .i8 r) ∧ w'.cell? ⟨g, 0, none⟩ = some (.int .i64 e0) ∧ w'.cell? ⟨g, 0 + 1, none⟩ = some (.int .i64 e1) ∧ w'.cell? ⟨g, 0 + 2, none⟩ = some (.int .i64 e2) ∧ w'.cell? ⟨g, 0 + 3, none⟩ = some (.int .i64 e3) ∧ w'.cell? ⟨g, 0 + 4, none⟩ = some (.int .i64 e4) ∧ w'.cell? ⟨g, 0 + 5, none⟩ = some (.int .i64 e5) ∧ w'.cell? ⟨g, 0 + 6, none⟩ = some (.int .i64 e6) ∧ w'.cell? ⟨g, 0 + 7, none⟩ = some (.int .i64 e7))
              ((repeat' apply And.intro) <;> first | (simp [*, go_sem, ↓IntWalk.iteOmega]; done) | (refine got_of ?_; simp [*, go_sem, ↓IntWalk.iteOmega]; done))
              (first | (go_at_call_of 26 z; refine (r2whole_ok _ ex z (by omega) (by omega) (fun b hb => Nat.lt_of_lt_of_le (hexi b hb) (by first | (simp; done) | (simp; omega) | omega))).mono ?_; rintro e w' ⟨s1, A1, n1, c1, s2, A2, n2, c2, X5, D5, rfl, rfl, hqz⟩) | (go_at_call 26; refine (r2whole_ok _ ex 1 (by omega) (by omega) (fun b hb => Nat.lt_of_lt_of_le (hexi b hb) (by first | (simp; done) | (simp; omega) | omega))).mono ?_; rintro e w' ⟨s3, A3, n3, c3, s4, A4, n4, c4, X6, D6, rfl, rfl, hq1⟩) | (go_at_call 84; refine (r6scale_ok _ ex s1 A1 n1 c1 s2 A2 n2 c2 ((z : Int) : Rat) (some ⟨_, 0, none⟩) 1 1 [(((1 : Int) : Rat), [e0, e1, e2, e3, e4, e5, e6, e7])] (hqz.mono (Kr.of_below (by repeat first | with_reducible exact .refl .. | with_reducible assumption | refine .s ?_ ?_ | refine .m ?_ ?_ | refine .l ?_ ?_ | refine .d ?_ | refine .e ?_ | (simp <;> omega) | omega) _)) (rp_one (fun hh => absurd (hexi _ hh) (by simp; try omega)) (by first | (simp; done) | (simp; omega) | omega) (by simp [go_sem, ↓IntWalk.iteOmega]) (by simp [go_sem, ↓IntWalk.iteOmega]) (by simp [go_sem, ↓IntWalk.iteOmega]) (by simp [go_sem, ↓IntWalk.iteOmega]) (by simp [go_sem, ↓IntWalk.iteOmega]) (by simp [go_sem, ↓IntWalk.iteOmega]) (by simp [go_sem, ↓IntWalk.iteOmega]) (by simp [go_sem, ↓IntWalk.iteOmega]) (by simp [go_sem, ↓IntWalk.iteOmega]) (by simp [go_sem, ↓IntWalk.iteOmega]) (by simp [go_sem, ↓IntWalk.iteOmega]) (by simp [go_sem, ↓IntWalk.iteOmega]) (hq1.mono (Kr.of_below (by repeat first | with_reducible exact .refl .. | with_reducible assumption | refine .s ?_ ?_ | refine .m ?_ ?_ | refine .l ?_ ?_ | refine .d ?_ | refine .e ?_ | (simp <;> omega) | omega) _))) HE1.out HT0.out HT1.out (by decide) (fun b hb => Nat.lt_of_lt_of_le (hexi b hb) (by first | (simp; done) | (simp; omega) | omega))).mono ?_; rintro e w' ⟨A5, n5, c5, X7, D7, rfl, rfl, h5⟩) | (go_at_call 41; refine (r6add_ok _ ex A9 n9 c9 P A5 n5 c5 _ (hpi.mono (Kr.of_below (by repeat first | with_reducible exact .refl .. | with_reducible assumption | refine .s ?_ ?_ | refine .m ?_ ?_ | refine .l ?_ ?_ | refine .d ?_ | refine .e ?_ | (simp <;> omega) | omega) _)) (h5.mono (Kr.of_below (by repeat first | with_reducible exact .refl .. | with_reducible assumption | refine .s ?_ ?_ | refine .m ?_ ?_ | refine .l ?_ ?_ | refine .d ?_ | refine .e ?_ | (simp <;> omega) | omega) _)) HTP.out HT2.out hn9 (by rw [h5.len]; have := HL2.out; omega) (fun b hb => Nat.lt_of_lt_of_le (hexi b hb) (by first | (simp; done) | (simp; omega) | omega))).mono ?_; rintro e w' ⟨A6, n6, c6, X8, D8, rfl, rfl, h6⟩))
            all_goals (rename_i hHeldZ; clear hHeldZ)
            all_goals
              go_wp2_with fail
              go_roundw
              case rel => exact ⟨k + 1, A6, n6, c6, by omega, by omega, by go_num, rfl, by rw [HMk.out]; exact h6.mono (Kr.of_below (by repeat first | with_reducible exact .refl .. | with_reducible assumption | refine .s ?_ ?_ | refine .m ?_ ?_ | refine .l ?_ ?_ | refine .d ?_ | refine .e ?_ | (simp <;> omega) | omega) _), hbwi.trans ((show Below wi.heap.size wi _ from (by repeat first | with_reducible exact .refl .. | with_reducible assumption | refine .s ?_ ?_ | refine .m ?_ ?_ | refine .l ?_ ?_ | refine .d ?_ | refine .e ?_ | (simp <;> omega) | omega)).mono (by omega))⟩
              case measure => simp [intOf]; omega
    · have HEnd : Hid (madeP n deg (rows.take k) = madeP n deg (rows.take terms)) := Lib.hid (by
        congr 1
        by_cases h1 : k < m
        · rw [show k = terms by omega]
        · rw [List.take_of_length_le (by rw [← HL.out]; omega), List.take_of_length_le (by rw [← HL.out]; omega)])
      by_cases h1 : k < m
      · obtain rfl : k = terms := by omega
        go_wp2_with fail
        go_ret
        exact RetP.mk rfl hbw hp
      · obtain rfl : k = m := by omega
        go_wp2_with fail
        go_ret
        rw [← HEnd.out]
        exact RetP.mk rfl hbw hp

/-- Raw numbers of a polynomial: the rows lie elsewhere. -/
def raRd (w : World) (ex : List Nat) (r : List (List Int)) (vs : List Value) : Prop := ∃ A n c, vs = [.slice A n c] ∧ RL rwE w ex A n c r
theorem infoRaw : (Tryz.prog.info? 93).map (fun i => (i.zero, i.size, i.bytes)) = some (some (.agg #[.slice none 0 0]), 1, 24) := by kernel_rfl
def raE : Elt (List (List Int)) where
  ty := 93
  size := 1
  bytes := 24
  rd := raRd
  pos := by decide
  few := by decide
  mono := by
    rintro w w' ex ex' x vs k ⟨A, n, c, rfl, hq⟩
    exact ⟨A, n, c, rfl, hq.mono k⟩
  len := by
    rintro w ex x vs ⟨A, n, c, rfl, hq⟩
    rfl
  one := by
    rintro w ex x vs ⟨A, n, c, rfl, hq⟩ u hu
    simp only [List.mem_cons, List.not_mem_nil, or_false] at hu
    subst hu; rfl
  info := by
    obtain ⟨i, h1, h2, h3, h4⟩ := info_parts infoRaw
    exact ⟨i, _, h1, h2, h3, h4, rfl⟩
theorem RL.rawAt {w : World} {ex : List Nat} {b o n c : Nat} {l : List (List (List Int))} (h : RL raE w ex (some ⟨b, o, none⟩) n c l) {k : Nat} (hk : k < l.length) :
    ∃ A m c', w.cell? ⟨b, o + k, none⟩ = some (.slice A m c') ∧ RL rwE w ex A m c' l[k] := by
  obtain ⟨b', o', e, _, _, ht⟩ := h.at_ (by rw [h.len]; omega)
  cases e
  obtain ⟨vs, ⟨A, m, c', rfl, hp⟩, hc⟩ := ht k hk
  refine ⟨A, m, c', ?_, hp⟩
  have := hc 0 _ rfl
  rwa [show o + k * raE.size + 0 = o + k from by show o + k * 1 + 0 = o + k; omega] at this
/-- The polynomials that lists of raw numbers describe. -/
def listP (n : Nat) (deg : Int) (terms : Nat) (l : List (List (List Int))) : List Pol := l.map fun r => madeP n deg (r.take terms)
theorem listP_step {n : Nat} {deg : Int} {terms : Nat} {l : List (List (List Int))} {k : Nat} (hk : k < l.length) : listP n deg terms (l.take (k + 1)) = listP n deg terms (l.take k) ++ [madeP n deg (l[k].take terms)] := by
  unfold listP; rw [List.take_succ_eq_append_getElem hk, List.map_append]; rfl
theorem listP_len (n : Nat) (deg : Int) (terms : Nat) (l : List (List (List Int))) : (listP n deg terms l).length = l.length := by unfold listP; simp

set_option maxHeartbeats 4000000 in
theorem r6list_ok (w : World) (ex : List Nat) (A : Option Addr) (m c : Nat) (l : List (List (List Int))) (n deg terms most : Nat) (hx : RL raE w ex A m c l) (hn : n ≤ 1000) (hd : deg ≤ 65535) (ht : terms ≤ 100) (hmost : most ≤ 1000) (hex : ∀ b ∈ ex, b < w.heap.size) :
    Calls Tryz.prog 11 #[.slice A m c, .int .i64 n, .int .i64 deg, .int .i64 terms, .int .i64 most] w (RetL poE w ex (listP n deg terms (l.take most))) := by
  have HL := Lib.hid hx.len
  have hcap := hx.cap
  have HX := Lib.hid hx
  clear hx
  go_enter Tryz.func11, Tryz.ntmps11
  go_wp2_with fail
  go_loopw [11, 12] (fun v i wr => ∃ k : Nat, k ≤ m ∧ k ≤ most ∧ i = .int .i64 k ∧ OwnL poE wr w.heap.size ex v (listP n deg terms (l.take k)) ∧ Below w.heap.size w wr) (fun _ i _ => m - (intOf i).toNat)
  case atStart => exact ⟨0, Nat.zero_le _, Nat.zero_le _, rfl, OwnL.empty _ _ _ (Nat.le_refl _), (by repeat first | with_reducible exact .refl .. | with_reducible assumption | refine .s ?_ ?_ | refine .m ?_ ?_ | refine .l ?_ ?_ | refine .d ?_ | refine .e ?_ | (simp <;> omega) | omega)⟩
  case round =>
    obtain ⟨k, hk, hkt, rfl, hown, hb⟩ := hrel
    have hsz := hb.size
    have hvle := hown.le
    have hlen : (listP n deg terms (l.take k)).length = k := by rw [listP_len, List.length_take, ← HL.out]; omega
    obtain ⟨vA, vc, rfl, hvc⟩ := hown.form hlen
    by_cases hlt : k < m ∧ k < most
    · obtain ⟨hkm, hkt'⟩ := hlt
      have hxw := HX.out.mono (Kr.fresh (l := own (.slice vA k vc)) hb (fun b hb => (hvle b hb).1))
      have hkl : k < l.length := by rw [← HL.out]; exact hkm
      obtain ⟨b, o, rfl, hbx, hbl⟩ := hxw.some' (by omega)
      obtain ⟨A1, m1, c1, hcell, hp1⟩ := hxw.rawAt hkl
      have HN := Lib.hid (listP_step (n := n) (deg := (deg : Int)) (terms := terms) hkl)
      generalize hPt : listP n deg terms (l.take k) = P at *
      clear hPt
      have hi1 : (k : Int) < (m : Int) := by omega
      have hi2 : (k : Int) < (most : Int) := by omega
      clear hxw
      go_wp2_with fail
      refine (r6made_ok _ (own (.slice vA k vc) ++ ex) A1 m1 c1 l[k] n deg terms (hp1.mono (Kr.of_below (by repeat first | with_reducible exact .refl .. | with_reducible assumption | refine .s ?_ ?_ | refine .m ?_ ?_ | refine .l ?_ ?_ | refine .d ?_ | refine .e ?_ | (simp <;> omega) | omega) _)) hn hd ht (hexs hex hsz (fun b hb => (hvle b hb).2))).mono ?_; rintro e w1 ⟨A2, m2, c2, X1, D1, rfl, rfl, h2⟩
      go_wp2_with (at_builtin; refine wpList_append_elt poE _ rfl _ _ 25 rfl Tryz.underlying25 w.heap.size ex (.slice vA k vc) P rfl (hown.keep (by repeat first | with_reducible exact .refl .. | with_reducible assumption | refine .s ?_ ?_ | refine .m ?_ ?_ | refine .l ?_ ?_ | refine .d ?_ | refine .e ?_ | (simp <;> omega) | omega)) _ _ rfl (madeP n deg (l[k].take terms)) [.slice A2 m2 c2] (cell_new _ _ _ _ (by simp)) (by intro hh; rcases List.mem_append.1 hh with hh | hh; (have := (hvle _ hh).2; omega); (have := hex _ hh; omega)) ⟨A2, m2, c2, rfl, h2.mono (Kr.of_below (by repeat first | with_reducible exact .refl .. | with_reducible assumption | refine .s ?_ ?_ | refine .m ?_ ?_ | refine .l ?_ ?_ | refine .d ?_ | refine .e ?_ | (simp <;> omega) | omega) _)⟩ (by rw [hlen]; omega) (by simp; omega) ?_; intro v' w1 hown1 hkr1 hbl1; have hbx1 := hbl1 _ _ (show Below w.heap.size w _ from (by repeat first | with_reducible exact .refl .. | with_reducible assumption | refine .s ?_ ?_ | refine .m ?_ ?_ | refine .l ?_ ?_ | refine .d ?_ | refine .e ?_ | (simp <;> omega) | omega)) (Nat.le_refl _))
      go_wp2_with fail
      go_roundw
      case rel => exact ⟨k + 1, by omega, by omega, by go_num, by rw [HN.out]; exact hown1, hbx1⟩
      case measure => simp [intOf]; omega
    · have HE : Hid (listP n deg terms (l.take k) = listP n deg terms (l.take most)) := Lib.hid (by
        congr 1
        by_cases h1 : k < m
        · rw [show k = most by omega]
        · rw [List.take_of_length_le (by rw [← HL.out]; omega), List.take_of_length_le (by rw [← HL.out]; omega)])
      have hr := hown.read hex
      rw [HE.out] at hr
      by_cases h1 : k < m
      · obtain rfl : k = most := by omega
        go_wp2_with fail
        go_ret
        exact RetL.mk rfl hb hr
      · obtain rfl : k = m := by omega
        go_wp2_with fail
        go_ret
        exact RetL.mk rfl hb hr

end Go.Proofs.YthhdleppkggepaaGreat
