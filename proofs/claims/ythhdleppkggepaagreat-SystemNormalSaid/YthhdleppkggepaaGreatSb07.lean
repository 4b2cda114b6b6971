/-
  Polynomials: how they are read.
-/
import Derived.Test.YthhdleppkggepaaGreatSb06

set_option linter.unusedSimpArgs false
set_option linter.unusedVariables false
set_option linter.unusedSectionVars false

namespace Go.Proofs.YthhdleppkggepaaGreat
open Go.RowKit Go.Deep
set_option maxRecDepth 100000

/-- A term at a place: twelve cells. -/
def Term (w : World) (ex : List Nat) (b o : Nat) (t : Rat × List Int) : Prop :=
  ∃ s1 A1 n1 c1 s2 A2 n2 c2 e0 e1 e2 e3 e4 e5 e6 e7, w.cell? ⟨b, o, none⟩ = some (.bool s1) ∧ w.cell? ⟨b, o + 1, none⟩ = some (.slice A1 n1 c1) ∧ w.cell? ⟨b, o + 2, none⟩ = some (.bool s2) ∧ w.cell? ⟨b, o + 3, none⟩ = some (.slice A2 n2 c2) ∧
    w.cell? ⟨b, o + 4, none⟩ = some (.int .i64 e0) ∧ w.cell? ⟨b, o + 5, none⟩ = some (.int .i64 e1) ∧ w.cell? ⟨b, o + 6, none⟩ = some (.int .i64 e2) ∧ w.cell? ⟨b, o + 7, none⟩ = some (.int .i64 e3) ∧
    w.cell? ⟨b, o + 8, none⟩ = some (.int .i64 e4) ∧ w.cell? ⟨b, o + 9, none⟩ = some (.int .i64 e5) ∧ w.cell? ⟨b, o + 10, none⟩ = some (.int .i64 e6) ∧ w.cell? ⟨b, o + 11, none⟩ = some (.int .i64 e7) ∧
    RQ w ex s1 A1 n1 c1 s2 A2 n2 c2 t.1 ∧ t.2 = [e0, e1, e2, e3, e4, e5, e6, e7]
theorem Term.mono {w w' : World} {ex ex' : List Nat} {b o : Nat} {t : Rat × List Int} (h : Term w ex b o t) (k : Kr w ex w' ex') (hb : b < w.heap.size) (hx : b ∉ ex) : Term w' ex' b o t := by
  obtain ⟨s1, A1, n1, c1, s2, A2, n2, c2, e0, e1, e2, e3, e4, e5, e6, e7, h0, h1, h2, h3, h4, h5, h6, h7, h8, h9, h10, h11, hq, hm⟩ := h
  have hc : ∀ i, w'.cell? ⟨b, i, none⟩ = w.cell? ⟨b, i, none⟩ := fun i => World.cell?_of_block (w := w) (k.same b hb hx)
  exact ⟨s1, A1, n1, c1, s2, A2, n2, c2, e0, e1, e2, e3, e4, e5, e6, e7, (hc _).trans h0, (hc _).trans h1, (hc _).trans h2, (hc _).trans h3, (hc _).trans h4, (hc _).trans h5, (hc _).trans h6, (hc _).trans h7, (hc _).trans h8, (hc _).trans h9, (hc _).trans h10, (hc _).trans h11, hq.mono k, hm⟩
/-- A polynomial: its terms. -/
structure RP (w : World) (ex : List Nat) (A : Option Addr) (n c : Nat) (p : List (Rat × List Int)) : Prop where
  len : n = p.length
  cap : n ≤ c
  at_ : 0 < n → ∃ b o, A = some ⟨b, o, none⟩ ∧ b ∉ ex ∧ b < w.heap.size ∧ ∀ i (hi : i < p.length), Term w ex b (o + i * 12) p[i]
theorem RP.mono {w w' : World} {ex ex' : List Nat} {A : Option Addr} {n c : Nat} {p : List (Rat × List Int)} (h : RP w ex A n c p) (k : Kr w ex w' ex') : RP w' ex' A n c p := by
  refine ⟨h.len, h.cap, fun h0 => ?_⟩
  obtain ⟨b, o, e, hx, hb, ht⟩ := h.at_ h0
  exact ⟨b, o, e, k.out b hb hx, Nat.lt_of_lt_of_le hb k.size, fun i hi => (ht i hi).mono k hb hx⟩
theorem RP.nil (w : World) (ex : List Nat) (A : Option Addr) (c : Nat) : RP w ex A 0 c [] := ⟨rfl, Nat.zero_le _, fun h => absurd h (by omega)⟩

end Go.Proofs.YthhdleppkggepaaGreat

/-
  The walks of the reference of package polynomial: degrees.
-/
namespace Go.Proofs.YthhdleppkggepaaGreat
open Go.RowKit Go.Deep
set_option maxRecDepth 100000

def pdeg (p : List (Rat × List Int)) : Int := p.foldl (fun d t => max d t.2.sum) (-1)
/-- Exponents of all terms in their range. -/
def PExps (p : List (Rat × List Int)) : Prop := ∀ t ∈ p, Exps t.2
theorem sum_le8 {m : List Int} (hm : Exps m) (hl : m.length = 8) : 0 ≤ m.sum ∧ m.sum ≤ 524280 := by
  have := sum_bound hm 8
  rw [List.take_of_length_le (by omega)] at this
  omega
theorem pdeg_succ {p : List (Rat × List Int)} {k : Nat} (hk : k < p.length) : pdeg (p.take (k + 1)) = max (pdeg (p.take k)) p[k].2.sum := by
  unfold pdeg
  rw [List.take_succ_eq_append_getElem hk, List.foldl_append]; rfl
theorem pdeg_bound {p : List (Rat × List Int)} (h : ∀ t ∈ p, 0 ≤ t.2.sum ∧ t.2.sum ≤ 524280) : -1 ≤ pdeg p ∧ pdeg p ≤ 524280 := by
  unfold pdeg
  have : ∀ (l : List (Rat × List Int)) (d : Int), -1 ≤ d → d ≤ 524280 → (∀ t ∈ l, 0 ≤ t.2.sum ∧ t.2.sum ≤ 524280) → -1 ≤ l.foldl (fun d t => max d t.2.sum) d ∧ l.foldl (fun d t => max d t.2.sum) d ≤ 524280 := by
    intro l
    induction l with
    | nil => intro d h1 h2 _; exact ⟨h1, h2⟩
    | cons t r ih =>
      intro d h1 h2 hl
      have ht := hl t (by simp)
      exact ih _ (by show -1 ≤ max d t.2.sum; omega) (by show max d t.2.sum ≤ 524280; omega) (fun u hu => hl u (by simp [hu]))
  exact this p (-1) (by omega) (by omega) h

set_option maxHeartbeats 2000000 in
theorem r6degree_ok (w : World) (ex : List Nat) (A : Option Addr) (n c : Nat) (p : List (Rat × List Int)) (hx : RP w ex A n c p) (hp : PExps p) (hn : n ≤ 1000000000) :
    Calls Tryz.prog 102 #[.slice A n c] w (RetV w (.int .i64 (pdeg p))) := by
  have HL := Lib.hid hx.len
  have hcap := hx.cap
  have HS : Hid (∀ (k : Nat) (hk : k < p.length), 0 < n → 0 ≤ p[k].2.sum ∧ p[k].2.sum ≤ 524280) := by
    intro k hk h0
    obtain ⟨b, o, e, _, _, ht⟩ := hx.at_ h0
    obtain ⟨s1, A1, n1, c1, s2, A2, n2, c2, e0, e1, e2, e3, e4, e5, e6, e7, h0, h1, h2, h3, h4, h5, h6, h7, h8, h9, h10, h11, hq, hm⟩ := ht k hk
    exact sum_le8 (hp _ (List.getElem_mem hk)) (by rw [hm]; rfl)
  have HP := Lib.hid hp
  clear hp
  go_enter Tryz.func102, Tryz.ntmps102
  go_wp2_with fail
  go_loopw [3, 4] (fun d i wr => ∃ k : Nat, k ≤ n ∧ i = .int .i64 k ∧ d = .int .i64 (pdeg (p.take k)) ∧ Below w.heap.size w wr) (fun _ i _ => n - (intOf i).toNat)
  case atStart => exact ⟨0, Nat.zero_le _, rfl, rfl, Below.refl _ _⟩
  case round =>
    obtain ⟨k, hk, rfl, rfl, hb⟩ := hrel
    by_cases hlt : k < n
    · have hxw := hx.mono (Kr.of_below hb ex)
      obtain ⟨b, o, rfl, hbx, hbl, ht⟩ := hxw.at_ (by omega)
      have hkp : k < p.length := by have := HL.out; omega
      obtain ⟨s1, A1, n1, c1, s2, A2, n2, c2, e0, e1, e2, e3, e4, e5, e6, e7, h0, h1, h2, h3, h4, h5, h6, h7, h8, h9, h10, h11, hq, hm⟩ := ht k hkp
      have i1 : wr.cell? ⟨b, o + k * 12 + 4 + 1, none⟩ = some (.int .i64 e1) := h5
      have i2 : wr.cell? ⟨b, o + k * 12 + 4 + 2, none⟩ = some (.int .i64 e2) := h6
      have i3 : wr.cell? ⟨b, o + k * 12 + 4 + 3, none⟩ = some (.int .i64 e3) := h7
      have i4 : wr.cell? ⟨b, o + k * 12 + 4 + 4, none⟩ = some (.int .i64 e4) := h8
      have i5 : wr.cell? ⟨b, o + k * 12 + 4 + 5, none⟩ = some (.int .i64 e5) := h9
      have i6 : wr.cell? ⟨b, o + k * 12 + 4 + 6, none⟩ = some (.int .i64 e6) := h10
      have i7 : wr.cell? ⟨b, o + k * 12 + 4 + 7, none⟩ = some (.int .i64 e7) := h11
      have hE : Exps [e0, e1, e2, e3, e4, e5, e6, e7] := by rw [← hm]; exact HP.out _ (List.getElem_mem hkp)
      have hsb := HS.out k hkp (by omega)
      have hdb := pdeg_bound (p := p.take k) (by
        intro t htm
        obtain ⟨j, hj, rfl⟩ := List.getElem_of_mem htm
        rw [List.getElem_take]
        exact HS.out j (by simp at hj; omega) (by omega))
      have hst := pdeg_succ hkp
      rw [hm] at hsb hst
      have HM := Lib.hid hm
      clear h0 h1 h2 h3 h5 h6 h7 h8 h9 h10 h11 hm ht
      obtain ⟨d, hd⟩ : ∃ d : Int, pdeg (p.take k) = d := ⟨_, rfl⟩
      rw [hd] at hdb hst
      rw [hd]
      clear hd
      have HST := Lib.hid hst
      clear hst
      go_wp2_with fail
      refine (r4degree_ok _ _ _ _ _ _ _ _ _ hE).mono ?_; rintro e w1 ⟨X, D, rfl, rfl⟩
      obtain ⟨s, hs⟩ : ∃ s : Int, [e0, e1, e2, e3, e4, e5, e6, e7].sum = s := ⟨_, rfl⟩
      rw [hs] at hsb HST
      rw [hs]
      clear hs hE
      go_wp2_with fail
      all_goals
        go_roundw
        case rel =>
          refine ⟨k + 1, by omega, by go_num, ?_, Below.more hb hb.size _ _⟩
          rw [HST.out]
          congr 1
          omega
        case measure => simp [intOf]; omega
    · obtain rfl : k = n := by omega
      go_wp2_with fail
      go_ret
      refine RetV.mk ?_ hb
      rw [List.take_of_length_le (by have := HL.out; omega)]; rfl

end Go.Proofs.YthhdleppkggepaaGreat

/-
  The walks of package monomial and its reference: which variables occur.
-/
namespace Go.Proofs.YthhdleppkggepaaGreat
open Go.RowKit Go.Deep
set_option maxRecDepth 100000

/-- The variables that occur, as bits. -/
def suppN : List Int → Nat
  | [] => 0
  | e :: r => (if 0 < e then 1 else 0) + 2 * suppN r
theorem suppN_take_succ (l : List Int) (k : Nat) : suppN (l.take (k + 1)) = suppN (l.take k) + if 0 < l.getD k 0 then 2 ^ k else 0 := by
  induction l generalizing k with
  | nil => simp [suppN]
  | cons a r ih =>
    cases k with
    | zero => simp [suppN]
    | succ k =>
      simp only [List.take_succ_cons, suppN, ih, List.getD_cons_succ, Nat.pow_succ]
      generalize suppN (List.take k r) = z
      generalize 2 ^ k = y
      by_cases h1 : 0 < a <;> by_cases h2 : 0 < r.getD k 0 <;> simp only [h1, h2, if_true, if_false] <;> omega
theorem suppN_lt (l : List Int) : suppN l < 2 ^ l.length := by
  induction l with
  | nil => simp [suppN]
  | cons a r ih => simp only [suppN, List.length_cons, Nat.pow_succ]; split <;> omega

set_option maxHeartbeats 1000000 in
theorem r4bit_ok (w : World) (n : Nat) (hn : n < 8) : Calls Tryz.prog 219 #[.int .i64 n] w fun e w' => e = .returned (.int .u8 ((2 ^ n : Nat) : Int)) ∧ w' = w := by
  go_enter Tryz.func219, Tryz.ntmps219
  go_wp2_with fail
  go_loopw [3, 4] (fun v i wr => ∃ k : Nat, k ≤ n ∧ i = .int .i64 k ∧ v = .int .i64 ((2 ^ k : Nat) : Int) ∧ wr = w) (fun _ i _ => n - (intOf i).toNat)
  case atStart => exact ⟨0, Nat.zero_le _, rfl, rfl, rfl⟩
  case round =>
    obtain ⟨k, hk, rfl, rfl, rfl⟩ := hrel
    by_cases hlt : k < n
    · have hp : 2 ^ (k + 1) = 2 * 2 ^ k := by rw [Nat.pow_succ, Nat.mul_comm]
      have hb : 2 ^ k ≤ 64 := Nat.le_trans (Nat.pow_le_pow_right (by decide) (show k ≤ 6 by omega)) (by decide)
      obtain ⟨y, hy⟩ : ∃ y : Nat, 2 ^ k = y := ⟨_, rfl⟩
      rw [hy] at hp hb ⊢
      have HP := Lib.hid hp; clear hp hy
      go_wp2_with fail
      go_roundw
      case rel => exact ⟨k + 1, by omega, by go_num, by rw [HP.out]; simp, by trivial⟩
      case measure => simp [intOf]; omega
    · obtain rfl : k = n := by omega
      have hb : 2 ^ k ≤ 128 := Nat.le_trans (Nat.pow_le_pow_right (by decide) (show k ≤ 7 by omega)) (by decide)
      obtain ⟨y, hy⟩ : ∃ y : Nat, 2 ^ k = y := ⟨_, rfl⟩
      rw [hy] at hb ⊢
      have HY := Lib.hid hy; clear hy
      go_wp2_with fail
      go_ret
      exact ⟨by rw [HY.out]; rfl, rfl⟩

set_option maxHeartbeats 1000000 in
theorem r4support_ok (w : World) (e0 e1 e2 e3 e4 e5 e6 e7 : Int) (hm : Exps [e0, e1, e2, e3, e4, e5, e6, e7]) :
    Calls Tryz.prog 189 #[.agg #[.int .i64 e0, .int .i64 e1, .int .i64 e2, .int .i64 e3, .int .i64 e4, .int .i64 e5, .int .i64 e6, .int .i64 e7]] w (RetV w (.int .u8 (suppN [e0, e1, e2, e3, e4, e5, e6, e7] : Nat))) := by
  have HM := Lib.hid hm; clear hm
  go_enter Tryz.func189, Tryz.ntmps189
  go_wp2_with fail
  go_loopw [3, 4] (fun n i wr => ∃ k : Nat, k ≤ 8 ∧ i = .int .i64 k ∧ n = .int .u8 (suppN ([e0, e1, e2, e3, e4, e5, e6, e7].take k) : Nat) ∧ wr = w.alloc (.cells #[.int .i64 e0, .int .i64 e1, .int .i64 e2, .int .i64 e3, .int .i64 e4, .int .i64 e5, .int .i64 e6, .int .i64 e7] 68)) (fun _ i _ => 8 - (intOf i).toNat)
  case atStart => exact ⟨0, Nat.zero_le _, rfl, rfl, rfl⟩
  case round =>
    obtain ⟨k, hk, rfl, rfl, rfl⟩ := hrel
    by_cases hlt : k < 8
    · have hcell := cell8 w 68 e0 e1 e2 e3 e4 e5 e6 e7 k hlt
      have hb := HM.out k
      have hstep := suppN_take_succ [e0, e1, e2, e3, e4, e5, e6, e7] k
      have hs := suppN_lt ([e0, e1, e2, e3, e4, e5, e6, e7].take k)
      rw [List.length_take, show min k ([e0, e1, e2, e3, e4, e5, e6, e7]).length = k from by simp; omega] at hs
      have hp : 2 ^ k ≤ 128 := Nat.le_trans (Nat.pow_le_pow_right (by decide) (show k ≤ 7 by omega)) (by decide)
      obtain ⟨x, hx⟩ : ∃ x : Int, [e0, e1, e2, e3, e4, e5, e6, e7].getD k 0 = x := ⟨_, rfl⟩
      obtain ⟨s, hs'⟩ : ∃ s : Nat, suppN ([e0, e1, e2, e3, e4, e5, e6, e7].take k) = s := ⟨_, rfl⟩
      obtain ⟨y, hy⟩ : ∃ y : Nat, 2 ^ k = y := ⟨_, rfl⟩
      rw [hx] at hb hcell hstep
      rw [hs'] at hs hstep ⊢
      rw [hy] at hs hp hstep
      have hbit := r4bit_ok (w.alloc (.cells #[.int .i64 e0, .int .i64 e1, .int .i64 e2, .int .i64 e3, .int .i64 e4, .int .i64 e5, .int .i64 e6, .int .i64 e7] 68)) k hlt
      rw [hy] at hbit
      obtain ⟨hb1, hb2⟩ := hb
      have HX := Lib.hid hx; clear hx hs' hy
      have HS := Lib.hid hstep; clear hstep
      by_cases hpos : 0 < x
      · go_wp2_with fail
        refine hbit.mono ?_; rintro e w1 ⟨rfl, rfl⟩
        go_wp2_with fail
        go_roundw
        case rel => exact ⟨k + 1, by omega, by go_num, by rw [HS.out, if_pos hpos]; simp, by trivial⟩
        case measure => simp [intOf]; omega
      · clear hbit
        go_wp2_with fail
        go_roundw
        case rel => exact ⟨k + 1, by omega, by go_num, by rw [HS.out, if_neg hpos]; simp, by trivial⟩
        case measure => simp [intOf]; omega
    · obtain rfl : k = 8 := by omega
      obtain ⟨y, hy⟩ : ∃ y : Nat, suppN ([e0, e1, e2, e3, e4, e5, e6, e7].take 8) = y := ⟨_, rfl⟩
      rw [hy]
      have HY := Lib.hid hy; clear hy
      go_wp2_with fail
      go_ret
      exact RetV.mk (by rw [← HY.out]; rfl) (by repeat first | with_reducible exact .refl .. | with_reducible assumption | refine .s ?_ ?_ | refine .m ?_ ?_ | refine .l ?_ ?_ | refine .d ?_ | refine .e ?_ | (simp <;> omega) | omega)

theorem or8_val (a b : Nat) (ha : a < 256) (hb : b < 256) : Go.bits .or .u8 (a : Int) (b : Int) = ((a ||| b : Nat) : Int) := by
  have h : a ||| b < 256 := Nat.or_lt_two_pow (n := 8) ha hb
  have h2 : (BitVec.ofInt 8 (a : Int) ||| BitVec.ofInt 8 (b : Int)).toNat = a ||| b := by
    rw [BitVec.ofInt_natCast, BitVec.ofInt_natCast, BitVec.toNat_or, BitVec.toNat_ofNat, BitVec.toNat_ofNat, Nat.mod_eq_of_lt ha, Nat.mod_eq_of_lt hb]
  show IntKind.u8.wrap ((BitVec.ofInt 8 (a : Int) ||| BitVec.ofInt 8 (b : Int)).toNat : Int) = _
  rw [h2]
  simp [IntKind.wrap, IntKind.bits, IntKind.signed]
  omega
theorem or_bit {s k : Nat} (hs : s < 2 ^ k) : s ||| 2 ^ k = s + 2 ^ k := by
  have := Nat.two_pow_add_eq_or_of_lt hs 1
  rw [Nat.mul_one, Nat.or_comm] at this
  omega

set_option maxHeartbeats 1000000 in
theorem msupport_ok (w : World) (e0 e1 e2 e3 e4 e5 e6 e7 : Int) (hm : Exps [e0, e1, e2, e3, e4, e5, e6, e7]) :
    Calls Tryz.prog 132 #[.agg #[.int .i64 e0, .int .i64 e1, .int .i64 e2, .int .i64 e3, .int .i64 e4, .int .i64 e5, .int .i64 e6, .int .i64 e7]] w (RetV w (.int .u8 (suppN [e0, e1, e2, e3, e4, e5, e6, e7] : Nat))) := by
  have HM := Lib.hid hm; clear hm
  go_enter Tryz.func132, Tryz.ntmps132
  go_wp2_with fail
  go_loopw [3, 7] (fun n i wr => ∃ k : Nat, k ≤ 8 ∧ i = .int .i64 k ∧ n = .int .u8 (suppN ([e0, e1, e2, e3, e4, e5, e6, e7].take k) : Nat) ∧ wr = w.alloc (.cells #[.int .i64 e0, .int .i64 e1, .int .i64 e2, .int .i64 e3, .int .i64 e4, .int .i64 e5, .int .i64 e6, .int .i64 e7] 68)) (fun _ i _ => 8 - (intOf i).toNat)
  case atStart => exact ⟨0, Nat.zero_le _, rfl, rfl, rfl⟩
  case round =>
    obtain ⟨k, hk, rfl, rfl, rfl⟩ := hrel
    by_cases hlt : k < 8
    · have hidx := idx8 e0 e1 e2 e3 e4 e5 e6 e7 k hlt
      have hb := HM.out k
      have hstep := suppN_take_succ [e0, e1, e2, e3, e4, e5, e6, e7] k
      have hs := suppN_lt ([e0, e1, e2, e3, e4, e5, e6, e7].take k)
      rw [List.length_take, show min k ([e0, e1, e2, e3, e4, e5, e6, e7]).length = k from by simp; omega] at hs
      have hor := or_bit hs
      have hp : 2 ^ k ≤ 128 := Nat.le_trans (Nat.pow_le_pow_right (by decide) (show k ≤ 7 by omega)) (by decide)
      have h8 := or8_val (suppN ([e0, e1, e2, e3, e4, e5, e6, e7].take k)) (2 ^ k) (by omega) (by omega)
      rw [hor] at h8
      obtain ⟨x, hx⟩ : ∃ x : Int, [e0, e1, e2, e3, e4, e5, e6, e7].getD k 0 = x := ⟨_, rfl⟩
      obtain ⟨s, hs'⟩ : ∃ s : Nat, suppN ([e0, e1, e2, e3, e4, e5, e6, e7].take k) = s := ⟨_, rfl⟩
      rw [hx] at hb hidx hstep
      rw [hs'] at hs hstep h8 ⊢
      obtain ⟨hb1, hb2⟩ := hb
      have HX := Lib.hid hx; clear hx hs' hor
      have HS := Lib.hid (And.intro hstep h8); clear hstep h8
      have HP := Lib.hid (And.intro hp hs); clear hp hs
      by_cases hpos : 0 < x
      · go_wp2_with fail
        go_roundw
        case rel =>
          refine ⟨k + 1, by omega, by go_num, ?_, by trivial⟩
          rw [HS.out.1, if_pos hpos]
          have hw : ((2 : Int) ^ k) % 256 = ((2 ^ k : Nat) : Int) := by
            have h1 := HP.out.1
            have e : ((2 : Int) ^ k) = ((2 ^ k : Nat) : Int) := by simp
            rw [e]
            generalize 2 ^ k = y at h1
            omega
          rw [hw, HS.out.2]
        case measure => simp [intOf]; omega
      · go_wp2_with fail
        go_roundw
        case rel => exact ⟨k + 1, by omega, by go_num, by rw [HS.out.1, if_neg hpos]; simp, by trivial⟩
        case measure => simp [intOf]; omega
    · obtain rfl : k = 8 := by omega
      obtain ⟨y, hy⟩ : ∃ y : Nat, suppN ([e0, e1, e2, e3, e4, e5, e6, e7].take 8) = y := ⟨_, rfl⟩
      rw [hy]
      have HY := Lib.hid hy; clear hy
      go_wp2_with fail
      go_ret
      exact RetV.mk (by rw [← HY.out]; rfl) (by repeat first | with_reducible exact .refl .. | with_reducible assumption | refine .s ?_ ?_ | refine .m ?_ ?_ | refine .l ?_ ?_ | refine .d ?_ | refine .e ?_ | (simp <;> omega) | omega)

/-- Two monomials are compared for being equal. -/
theorem eql8 (w : World) (e0 e1 e2 e3 e4 e5 e6 e7 f0 f1 f2 f3 f4 f5 f6 f7 : Int) :
    (Op.equal 68 (.agg #[.int .i64 e0, .int .i64 e1, .int .i64 e2, .int .i64 e3, .int .i64 e4, .int .i64 e5, .int .i64 e6, .int .i64 e7]) (.agg #[.int .i64 f0, .int .i64 f1, .int .i64 f2, .int .i64 f3, .int .i64 f4, .int .i64 f5, .int .i64 f6, .int .i64 f7])).run Tryz.prog w = .ok (decide ([e0, e1, e2, e3, e4, e5, e6, e7] = [f0, f1, f2, f3, f4, f5, f6, f7])) w := by
  have hs : (Tryz.prog.info? 3).map (fun i => i.size) = some 1 := by kernel_rfl
  obtain ⟨i, hi, hsz⟩ := Option.map_eq_some_iff.1 hs
  unfold Op.equal
  show (Op.equalIn (9999 + 1) 68 _ _).run _ _ = _
  unfold Op.equalIn
  simp only [Sem.run_bind, run_underlying Tryz.underlying68, Result.andThen_ok]
  have hag : ∀ w, (isAgg 3).run Tryz.prog w = .ok false w := by intro w; simp [isAgg, run_underlying Tryz.underlying3, go_sem]
  have heq : ∀ (a b : Int) (w : World), (Op.equalIn 9999 3 (.int .i64 a) (.int .i64 b)).run Tryz.prog w = .ok (a == b) w := fun a b w => run_equalIn_int w 9998 3 _ _ a b Tryz.underlying3
  simp [go_sem, sizeOf, typeInfo, hi, hsz, Go.part, show List.range' 0 8 = [0, 1, 2, 3, 4, 5, 6, 7] from rfl, List.forIn_cons, hag, heq]
  by_cases h0 : e0 = f0 <;> simp [h0, go_sem]
  by_cases h1 : e1 = f1 <;> simp [h1, go_sem]
  by_cases h2 : e2 = f2 <;> simp [h2, go_sem]
  by_cases h3 : e3 = f3 <;> simp [h3, go_sem]
  by_cases h4 : e4 = f4 <;> simp [h4, go_sem]
  by_cases h5 : e5 = f5 <;> simp [h5, go_sem]
  by_cases h6 : e6 = f6 <;> simp [h6, go_sem]
  by_cases h7 : e7 = f7 <;> simp [h7, go_sem]

end Go.Proofs.YthhdleppkggepaaGreat

/-
  The walks of package polynomial and its reference: which variables occur.
-/
namespace Go.Proofs.YthhdleppkggepaaGreat
open Go.RowKit Go.Deep
set_option maxRecDepth 100000

def usesN (p : List (Rat × List Int)) : Nat := p.foldl (fun u t => u ||| suppN t.2) 0
theorem usesN_succ {p : List (Rat × List Int)} {k : Nat} (hk : k < p.length) : usesN (p.take (k + 1)) = usesN (p.take k) ||| suppN p[k].2 := by
  unfold usesN
  rw [List.take_succ_eq_append_getElem hk, List.foldl_append]; rfl
theorem usesN_lt {p : List (Rat × List Int)} (h : ∀ t ∈ p, suppN t.2 < 256) : usesN p < 256 := by
  unfold usesN
  have : ∀ (l : List (Rat × List Int)) (u : Nat), u < 256 → (∀ t ∈ l, suppN t.2 < 256) → l.foldl (fun u t => u ||| suppN t.2) u < 256 := by
    intro l
    induction l with
    | nil => intro u hu _; exact hu
    | cons t r ih =>
      intro u hu hl
      exact ih _ (Nat.or_lt_two_pow (n := 8) hu (hl t (by simp))) (fun v hv => hl v (by simp [hv]))
  exact this p 0 (by decide) h
theorem RP.len8 {w : World} {ex : List Nat} {A : Option Addr} {n c : Nat} {p : List (Rat × List Int)} (h : RP w ex A n c p) : Len8 p := by
  intro t ht
  obtain ⟨j, hj, rfl⟩ := List.getElem_of_mem ht
  obtain ⟨b, o, e, _, _, hc⟩ := h.at_ (by rw [h.len]; omega)
  obtain ⟨s1, A1, n1, c1, s2, A2, n2, c2, e0, e1, e2, e3, e4, e5, e6, e7, h0, h1, h2, h3, h4, h5, h6, h7, h8, h9, h10, h11, hq, hm⟩ := hc j hj
  rw [hm]; rfl
theorem suppN_lt8 {p : List (Rat × List Int)} (h : Len8 p) : ∀ t ∈ p, suppN t.2 < 256 := by
  intro t ht
  have := suppN_lt t.2
  rwa [h t ht] at this

set_option maxHeartbeats 2000000 in
theorem r6uses_ok (w : World) (ex : List Nat) (A : Option Addr) (n c : Nat) (p : List (Rat × List Int)) (hx : RP w ex A n c p) (hp : PExps p) (hn : n ≤ 1000000000) :
    Calls Tryz.prog 148 #[.slice A n c] w (RetV w (.int .u8 (usesN p : Nat))) := by
  have HL := Lib.hid hx.len
  have HS := Lib.hid (suppN_lt8 hx.len8)
  have hcap := hx.cap
  have HP := Lib.hid hp
  clear hp
  go_enter Tryz.func148, Tryz.ntmps148
  go_wp2_with fail
  go_loopw [3, 4] (fun d i wr => ∃ k : Nat, k ≤ n ∧ i = .int .i64 k ∧ d = .int .u8 (usesN (p.take k) : Nat) ∧ Below w.heap.size w wr) (fun _ i _ => n - (intOf i).toNat)
  case atStart => exact ⟨0, Nat.zero_le _, rfl, rfl, Below.refl _ _⟩
  case round =>
    obtain ⟨k, hk, rfl, rfl, hb⟩ := hrel
    by_cases hlt : k < n
    · have hxw := hx.mono (Kr.of_below hb ex)
      obtain ⟨b, o, rfl, hbx, hbl, ht⟩ := hxw.at_ (by omega)
      have hkp : k < p.length := by have := HL.out; omega
      obtain ⟨s1, A1, n1, c1, s2, A2, n2, c2, e0, e1, e2, e3, e4, e5, e6, e7, h0, h1, h2, h3, h4, h5, h6, h7, h8, h9, h10, h11, hq, hm⟩ := ht k hkp
      have hd1 : wr.cell? ⟨b, o + k * 12 + 4 + 1, none⟩ = some (.int .i64 e1) := h5
      have hd2 : wr.cell? ⟨b, o + k * 12 + 4 + 2, none⟩ = some (.int .i64 e2) := h6
      have hd3 : wr.cell? ⟨b, o + k * 12 + 4 + 3, none⟩ = some (.int .i64 e3) := h7
      have hd4 : wr.cell? ⟨b, o + k * 12 + 4 + 4, none⟩ = some (.int .i64 e4) := h8
      have hd5 : wr.cell? ⟨b, o + k * 12 + 4 + 5, none⟩ = some (.int .i64 e5) := h9
      have hd6 : wr.cell? ⟨b, o + k * 12 + 4 + 6, none⟩ = some (.int .i64 e6) := h10
      have hd7 : wr.cell? ⟨b, o + k * 12 + 4 + 7, none⟩ = some (.int .i64 e7) := h11
      have hE : Exps [e0, e1, e2, e3, e4, e5, e6, e7] := by rw [← hm]; exact HP.out _ (List.getElem_mem hkp)
      have hst := usesN_succ hkp
      have hb1 := usesN_lt (p := p.take k) (fun t ht => HS.out t (List.mem_of_mem_take ht))
      have hb2 : suppN [e0, e1, e2, e3, e4, e5, e6, e7] < 256 := by rw [← hm]; exact HS.out _ (List.getElem_mem hkp)
      have hor := or8_val _ _ hb1 hb2
      rw [hm] at hst
      have HM := Lib.hid hm
      clear h0 h1 h2 h3 h5 h6 h7 h8 h9 h10 h11 hm ht
      obtain ⟨d, hd⟩ : ∃ d : Nat, usesN (p.take k) = d := ⟨_, rfl⟩
      rw [hd] at hst hor ⊢
      clear hd hb1 hb2
      have HST := Lib.hid hst
      clear hst
      go_wp2_with fail
      refine (r4support_ok _ _ _ _ _ _ _ _ _ hE).mono ?_; rintro e w1 ⟨X, D, rfl, rfl⟩
      obtain ⟨s, hs⟩ : ∃ s : Nat, suppN [e0, e1, e2, e3, e4, e5, e6, e7] = s := ⟨_, rfl⟩
      rw [hs] at hor HST ⊢
      clear hs hE
      go_wp2_with fail
      go_roundw
      case rel => exact ⟨k + 1, by omega, by go_num, by rw [HST.out], Below.more hb hb.size _ _⟩
      case measure => simp [intOf]; omega
    · obtain rfl : k = n := by omega
      go_wp2_with fail
      go_ret
      refine RetV.mk ?_ hb
      rw [List.take_of_length_le (by have := HL.out; omega)]; rfl

set_option maxHeartbeats 2000000 in
theorem puses_ok (w : World) (ex : List Nat) (A : Option Addr) (n c : Nat) (p : List (Rat × List Int)) (hx : RP w ex A n c p) (hp : PExps p) (hn : n ≤ 1000000000) :
    Calls Tryz.prog 89 #[.slice A n c] w (RetV w (.int .u8 (usesN p : Nat))) := by
  have HL := Lib.hid hx.len
  have HS := Lib.hid (suppN_lt8 hx.len8)
  have hcap := hx.cap
  have HP := Lib.hid hp
  clear hp
  go_enter Tryz.func89, Tryz.ntmps89
  go_wp2_with fail
  go_loopw [3, 8] (fun d i wr => ∃ k : Nat, k ≤ n ∧ i = .int .i64 k ∧ d = .int .u8 (usesN (p.take k) : Nat) ∧ Below w.heap.size w wr) (fun _ i _ => n - (intOf i).toNat)
  case atStart => exact ⟨0, Nat.zero_le _, rfl, rfl, Below.refl _ _⟩
  case round =>
    obtain ⟨k, hk, rfl, rfl, hb⟩ := hrel
    by_cases hlt : k < n
    · have hxw := hx.mono (Kr.of_below hb ex)
      obtain ⟨b, o, rfl, hbx, hbl, ht⟩ := hxw.at_ (by omega)
      have hkp : k < p.length := by have := HL.out; omega
      obtain ⟨s1, A1, n1, c1, s2, A2, n2, c2, e0, e1, e2, e3, e4, e5, e6, e7, h0, h1, h2, h3, h4, h5, h6, h7, h8, h9, h10, h11, hq, hm⟩ := ht k hkp
      have hE : Exps [e0, e1, e2, e3, e4, e5, e6, e7] := by rw [← hm]; exact HP.out _ (List.getElem_mem hkp)
      have hst := usesN_succ hkp
      have hb1 := usesN_lt (p := p.take k) (fun t ht => HS.out t (List.mem_of_mem_take ht))
      have hb2 : suppN [e0, e1, e2, e3, e4, e5, e6, e7] < 256 := by rw [← hm]; exact HS.out _ (List.getElem_mem hkp)
      have hor := or8_val _ _ hb1 hb2
      rw [hm] at hst
      have HM := Lib.hid hm
      clear hm ht
      obtain ⟨d, hd⟩ : ∃ d : Nat, usesN (p.take k) = d := ⟨_, rfl⟩
      rw [hd] at hst hor ⊢
      clear hd hb1 hb2
      have hsz := hb.size
      have HST := Lib.hid hst
      clear hst
      go_wp2_with fail
      refine (msupport_ok _ _ _ _ _ _ _ _ _ hE).mono ?_; rintro e w1 ⟨X, D, rfl, rfl⟩
      obtain ⟨s, hs⟩ : ∃ s : Nat, suppN [e0, e1, e2, e3, e4, e5, e6, e7] = s := ⟨_, rfl⟩
      rw [hs] at hor HST ⊢
      clear hs hE
      go_wp2_with fail
      go_roundw
      case rel => exact ⟨k + 1, by omega, by go_num, by rw [HST.out], (by repeat first | with_reducible exact .refl .. | with_reducible assumption | refine .s ?_ ?_ | refine .m ?_ ?_ | refine .l ?_ ?_ | refine .d ?_ | refine .e ?_ | (simp <;> omega) | omega)⟩
      case measure => simp [intOf]; omega
    · obtain rfl : k = n := by omega
      go_wp2_with fail
      go_ret
      refine RetV.mk ?_ hb
      rw [List.take_of_length_le (by have := HL.out; omega)]; rfl

end Go.Proofs.YthhdleppkggepaaGreat

/-
  The walks of package rational: reduction.
-/
namespace Go.Proofs.YthhdleppkggepaaGreat
open Go.RowKit Go.Deep
set_option maxRecDepth 100000

set_option maxHeartbeats 2000000 in
theorem lowest_ok (w : World) (ex : List Nat) (s1 : Bool) (A1 : Option Addr) (n1 c1 : Nat) (a : Int) (s2 : Bool) (A2 : Option Addr) (n2 c2 : Nat) (d : Int)
    (hx : RI w ex s1 A1 n1 c1 a) (hy : RI w ex s2 A2 n2 c2 d) (hd : d ≠ 0) (hw : Wee d.natAbs) (hn1 : n1 ≤ 1000000) (hn2 : n2 ≤ 1000000) (hex : ∀ b ∈ ex, b < w.heap.size) :
    Calls Tryz.prog 164 #[.agg #[.bool s1, .slice A1 n1 c1], .agg #[.bool s2, .slice A2 n2 c2]] w (RetQ w ex (Rat.divInt a d)) := by
  have HLg : Hid (∀ m, m = wl (Int.gcd a d : Int) → m ≤ 1000000) := by
    rintro m rfl
    have h1 := hx.len; have h2 := hy.len
    have := wl_gcd_le a d
    omega
  have HG0 : Hid ((Int.gcd a d : Int) ≠ 0) := gcd_ne hd
  have HGw : Hid (Wee (Int.gcd a d : Int).natAbs) := by show Wee _; rw [Int.natAbs_natCast]; exact hw.le (gcd_natAbs_le hd)
  by_cases hneg : d < 0
  · have HE := Lib.hid (lowest_neg (a := a) hneg : _ ∧ _)
    have hsg : d.sign = -1 := Int.sign_eq_neg_one_of_neg hneg
    have HD := Lib.hid hd
    clear hd hneg
    go_enter Tryz.func164, Tryz.ntmps164
    go_wp2_with fail
    refine (gcd_ok _ ([w.heap.size, w.heap.size + 1, w.heap.size + 2] ++ ex) _ _ _ _ _ _ _ _ _ _ (hx.mono (Kr.fresh (l := [w.heap.size, w.heap.size + 1, w.heap.size + 2]) (by repeat first | with_reducible exact .refl .. | with_reducible assumption | refine .s ?_ ?_ | refine .m ?_ ?_ | refine .l ?_ ?_ | refine .d ?_ | refine .e ?_ | (simp <;> omega) | omega) (by simp))) (hy.mono (Kr.fresh (l := [w.heap.size, w.heap.size + 1, w.heap.size + 2]) (by repeat first | with_reducible exact .refl .. | with_reducible assumption | refine .s ?_ ?_ | refine .m ?_ ?_ | refine .l ?_ ?_ | refine .d ?_ | refine .e ?_ | (simp <;> omega) | omega) (by simp))) hw (by omega) (by omega) (hexs hex (by first | (simp; done) | (simp; omega) | omega) (by first | (simp; done) | (simp; omega) | omega))).mono ?_; rintro e w1 ⟨sg, Ag, mg, cg, X, D, rfl, rfl, hg⟩
    have hgl := HLg.out _ hg.len
    go_wp2_with fail
    refine (sign_ok _ ex _ _ _ _ _ (hy.mono (Kr.fresh (l := []) (by repeat first | with_reducible exact .refl .. | with_reducible assumption | refine .s ?_ ?_ | refine .m ?_ ?_ | refine .l ?_ ?_ | refine .d ?_ | refine .e ?_ | (simp <;> omega) | omega) (by simp)))).mono ?_; rintro e w1 ⟨X2, D2, rfl, rfl⟩
    rw [hsg]
    go_wp2_with fail
    refine (ineg_ok _ ([w.heap.size + 3 + X.size, w.heap.size, w.heap.size + 1, w.heap.size + 2] ++ ex) _ _ _ _ _ (hg.mono (Kr.fresh (l := [w.heap.size + 3 + X.size]) (by repeat first | with_reducible exact .refl .. | with_reducible assumption | refine .s ?_ ?_ | refine .m ?_ ?_ | refine .l ?_ ?_ | refine .d ?_ | refine .e ?_ | (simp <;> omega) | omega) (by first | (simp; done) | (simp; omega) | omega))) (by omega) (hexs hex (by first | (simp; done) | (simp; omega) | omega) (by first | (simp; done) | (simp; omega) | omega))).mono ?_; rintro e w1 ⟨sh, Ah, mh, ch, X3, D3, rfl, rfl, hh⟩
    have hhl : mh ≤ 1000000 := by have := hh.len; rw [wl_neg] at this; exact HLg.out _ this
    go_wp2_with fail
    refine (divmod_ok _ ([w.heap.size + 3 + X.size, w.heap.size, w.heap.size + 1, w.heap.size + 2] ++ ex) _ _ _ _ _ _ _ _ _ _ (hx.mono (Kr.fresh (l := [w.heap.size + 3 + X.size, w.heap.size, w.heap.size + 1, w.heap.size + 2]) (by repeat first | with_reducible exact .refl .. | with_reducible assumption | refine .s ?_ ?_ | refine .m ?_ ?_ | refine .l ?_ ?_ | refine .d ?_ | refine .e ?_ | (simp <;> omega) | omega) (by first | (simp; done) | (simp; omega) | omega))) (hh.mono (by repeat (first | (with_reducible exact Kr.refl _ _) | (with_reducible assumption) | refine Kr.setCell ?_ _ (by simp) | refine Kr.more ?_ _ _ | refine Kr.alloc_ ?_ _ | refine Kr.drew ?_ | refine Kr.drewN ?_ _))) (by have := HG0.out; omega) (by rw [Int.natAbs_neg]; exact HGw.out) (by omega) (by omega) (hexs hex (by first | (simp; done) | (simp; omega) | omega) (by first | (simp; done) | (simp; omega) | omega))).mono ?_; rintro e w1 ⟨sq, Aq, mq, cq, sr, Ar, mr, cr, X4, D4, rfl, rfl, hq, hr⟩
    go_wp2_with fail
    refine (divmod_ok _ ([w.heap.size + 3 + X.size, w.heap.size, w.heap.size + 1, w.heap.size + 2] ++ ex) _ _ _ _ _ _ _ _ _ _ (hy.mono (Kr.fresh (l := [w.heap.size + 3 + X.size, w.heap.size, w.heap.size + 1, w.heap.size + 2]) (by repeat first | with_reducible exact .refl .. | with_reducible assumption | refine .s ?_ ?_ | refine .m ?_ ?_ | refine .l ?_ ?_ | refine .d ?_ | refine .e ?_ | (simp <;> omega) | omega) (by first | (simp; done) | (simp; omega) | omega))) (hh.mono (by repeat (first | (with_reducible exact Kr.refl _ _) | (with_reducible assumption) | refine Kr.setCell ?_ _ (by simp) | refine Kr.more ?_ _ _ | refine Kr.alloc_ ?_ _ | refine Kr.drew ?_ | refine Kr.drewN ?_ _))) (by have := HG0.out; omega) (by rw [Int.natAbs_neg]; exact HGw.out) (by omega) (by omega) (hexs hex (by first | (simp; done) | (simp; omega) | omega) (by first | (simp; done) | (simp; omega) | omega))).mono ?_; rintro e w1 ⟨sq2, Aq2, mq2, cq2, sr2, Ar2, mr2, cr2, X5, D5, rfl, rfl, hq2, hr2⟩
    go_wp2_with fail
    refine bodyPost_ret (v := .agg #[.bool sq, .slice Aq mq cq, .bool sq2, .slice Aq2 mq2 cq2]) (by simp [results, Tryz.results164, go_sem, ↓IntWalk.iteOmega]) rfl (RetQ.mk rfl (by repeat first | with_reducible exact .refl .. | with_reducible assumption | refine .s ?_ ?_ | refine .m ?_ ?_ | refine .l ?_ ?_ | refine .d ?_ | refine .e ?_ | (simp <;> omega) | omega) ?_ ?_)
    · rw [HE.out.1] at hq; exact hq.mono (Kr.down (by repeat (first | (with_reducible exact Kr.refl _ _) | (with_reducible assumption) | refine Kr.setCell ?_ _ (by simp) | refine Kr.more ?_ _ _ | refine Kr.alloc_ ?_ _ | refine Kr.drew ?_ | refine Kr.drewN ?_ _)) (by first | (intro b hb; simp [hb]; done) | (intro b hb; exact hb) | (intro b hb; simp at hb ⊢; grind)))
    · rw [HE.out.2] at hq2; exact hq2.mono (Kr.down (by repeat (first | (with_reducible exact Kr.refl _ _) | (with_reducible assumption) | refine Kr.setCell ?_ _ (by simp) | refine Kr.more ?_ _ _ | refine Kr.alloc_ ?_ _ | refine Kr.drew ?_ | refine Kr.drewN ?_ _)) (by first | (intro b hb; simp [hb]; done) | (intro b hb; exact hb) | (intro b hb; simp at hb ⊢; grind)))
  · have HE := Lib.hid (lowest_pos (a := a) (d := d) (by omega) : _ ∧ _)
    have hsg : d.sign = 1 := Int.sign_eq_one_of_pos (by omega)
    have HD := Lib.hid hd
    clear hd hneg
    go_enter Tryz.func164, Tryz.ntmps164
    go_wp2_with fail
    refine (gcd_ok _ ([w.heap.size, w.heap.size + 1, w.heap.size + 2] ++ ex) _ _ _ _ _ _ _ _ _ _ (hx.mono (Kr.fresh (l := [w.heap.size, w.heap.size + 1, w.heap.size + 2]) (by repeat first | with_reducible exact .refl .. | with_reducible assumption | refine .s ?_ ?_ | refine .m ?_ ?_ | refine .l ?_ ?_ | refine .d ?_ | refine .e ?_ | (simp <;> omega) | omega) (by simp))) (hy.mono (Kr.fresh (l := [w.heap.size, w.heap.size + 1, w.heap.size + 2]) (by repeat first | with_reducible exact .refl .. | with_reducible assumption | refine .s ?_ ?_ | refine .m ?_ ?_ | refine .l ?_ ?_ | refine .d ?_ | refine .e ?_ | (simp <;> omega) | omega) (by simp))) hw (by omega) (by omega) (hexs hex (by first | (simp; done) | (simp; omega) | omega) (by first | (simp; done) | (simp; omega) | omega))).mono ?_; rintro e w1 ⟨sg, Ag, mg, cg, X, D, rfl, rfl, hg⟩
    have hgl := HLg.out _ hg.len
    go_wp2_with fail
    refine (sign_ok _ ex _ _ _ _ _ (hy.mono (Kr.fresh (l := []) (by repeat first | with_reducible exact .refl .. | with_reducible assumption | refine .s ?_ ?_ | refine .m ?_ ?_ | refine .l ?_ ?_ | refine .d ?_ | refine .e ?_ | (simp <;> omega) | omega) (by simp)))).mono ?_; rintro e w1 ⟨X2, D2, rfl, rfl⟩
    rw [hsg]
    go_wp2_with fail
    have hhl := hgl
    have hh := hg
    refine (divmod_ok _ ([w.heap.size + 3 + X.size, w.heap.size, w.heap.size + 1, w.heap.size + 2] ++ ex) _ _ _ _ _ _ _ _ _ _ (hx.mono (Kr.fresh (l := [w.heap.size + 3 + X.size, w.heap.size, w.heap.size + 1, w.heap.size + 2]) (by repeat first | with_reducible exact .refl .. | with_reducible assumption | refine .s ?_ ?_ | refine .m ?_ ?_ | refine .l ?_ ?_ | refine .d ?_ | refine .e ?_ | (simp <;> omega) | omega) (by first | (simp; done) | (simp; omega) | omega))) (hh.mono (Kr.add (l := [w.heap.size + 3 + X.size]) (ex' := [w.heap.size, w.heap.size + 1, w.heap.size + 2] ++ ex) (by repeat (first | (with_reducible exact Kr.refl _ _) | (with_reducible assumption) | refine Kr.setCell ?_ _ (by simp) | refine Kr.more ?_ _ _ | refine Kr.alloc_ ?_ _ | refine Kr.drew ?_ | refine Kr.drewN ?_ _)) (by first | (simp; done) | (simp; omega) | omega))) HG0.out HGw.out (by omega) (by omega) (hexs hex (by first | (simp; done) | (simp; omega) | omega) (by first | (simp; done) | (simp; omega) | omega))).mono ?_; rintro e w1 ⟨sq, Aq, mq, cq, sr, Ar, mr, cr, X4, D4, rfl, rfl, hq, hr⟩
    go_wp2_with fail
    refine (divmod_ok _ ([w.heap.size + 3 + X.size, w.heap.size, w.heap.size + 1, w.heap.size + 2] ++ ex) _ _ _ _ _ _ _ _ _ _ (hy.mono (Kr.fresh (l := [w.heap.size + 3 + X.size, w.heap.size, w.heap.size + 1, w.heap.size + 2]) (by repeat first | with_reducible exact .refl .. | with_reducible assumption | refine .s ?_ ?_ | refine .m ?_ ?_ | refine .l ?_ ?_ | refine .d ?_ | refine .e ?_ | (simp <;> omega) | omega) (by first | (simp; done) | (simp; omega) | omega))) (hh.mono (Kr.add (l := [w.heap.size + 3 + X.size]) (ex' := [w.heap.size, w.heap.size + 1, w.heap.size + 2] ++ ex) (by repeat (first | (with_reducible exact Kr.refl _ _) | (with_reducible assumption) | refine Kr.setCell ?_ _ (by simp) | refine Kr.more ?_ _ _ | refine Kr.alloc_ ?_ _ | refine Kr.drew ?_ | refine Kr.drewN ?_ _)) (by first | (simp; done) | (simp; omega) | omega))) HG0.out HGw.out (by omega) (by omega) (hexs hex (by first | (simp; done) | (simp; omega) | omega) (by first | (simp; done) | (simp; omega) | omega))).mono ?_; rintro e w1 ⟨sq2, Aq2, mq2, cq2, sr2, Ar2, mr2, cr2, X5, D5, rfl, rfl, hq2, hr2⟩
    go_wp2_with fail
    refine bodyPost_ret (v := .agg #[.bool sq, .slice Aq mq cq, .bool sq2, .slice Aq2 mq2 cq2]) (by simp [results, Tryz.results164, go_sem, ↓IntWalk.iteOmega]) rfl (RetQ.mk rfl (by repeat first | with_reducible exact .refl .. | with_reducible assumption | refine .s ?_ ?_ | refine .m ?_ ?_ | refine .l ?_ ?_ | refine .d ?_ | refine .e ?_ | (simp <;> omega) | omega) ?_ ?_)
    · rw [HE.out.1] at hq; exact hq.mono (Kr.down (by repeat (first | (with_reducible exact Kr.refl _ _) | (with_reducible assumption) | refine Kr.setCell ?_ _ (by simp) | refine Kr.more ?_ _ _ | refine Kr.alloc_ ?_ _ | refine Kr.drew ?_ | refine Kr.drewN ?_ _)) (by first | (intro b hb; simp [hb]; done) | (intro b hb; exact hb) | (intro b hb; simp at hb ⊢; grind)))
    · rw [HE.out.2] at hq2; exact hq2.mono (Kr.down (by repeat (first | (with_reducible exact Kr.refl _ _) | (with_reducible assumption) | refine Kr.setCell ?_ _ (by simp) | refine Kr.more ?_ _ _ | refine Kr.alloc_ ?_ _ | refine Kr.drew ?_ | refine Kr.drewN ?_ _)) (by first | (intro b hb; simp [hb]; done) | (intro b hb; exact hb) | (intro b hb; simp at hb ⊢; grind)))

end Go.Proofs.YthhdleppkggepaaGreat
