/-
  The walks of package monomial: the order by slices.Compare.
-/
import Derived.Test.YthhdleppkggepaaGreatSb03
import Derived.Test.YthhdleppkggepaaGreatSb07
import Derived.Test.YthhdleppkggepaaGreatSb08
import Derived.Test.YthhdleppkggepaaGreatSb11

set_option linter.unusedSimpArgs false
set_option linter.unusedVariables false
set_option linter.unusedSectionVars false

namespace Go.Proofs.YthhdleppkggepaaGreat
open Go.RowKit Go.Deep
set_option maxRecDepth 100000

theorem cmpZ_neg {x y : Int} (h : x < y) : cmpZ x y = -1 := by unfold cmpZ; rw [if_pos h]
theorem cmpZ_pos {x y : Int} (h : y < x) : cmpZ x y = 1 := by unfold cmpZ; rw [if_neg (by omega), if_pos h]
theorem cmpZ_eq (x : Int) : cmpZ x x = 0 := by unfold cmpZ; rw [if_neg (by omega), if_neg (by omega)]

set_option maxHeartbeats 2000000 in
theorem compare8_ok (w : World) (b1 b2 : Nat) (a b : List Int) (ha : a.length = 8) (hb : b.length = 8)
    (h1 : ∀ k, k < 8 → w.cell? ⟨b1, k, none⟩ = some (.int .i64 (a.getD k 0))) (h2 : ∀ k, k < 8 → w.cell? ⟨b2, k, none⟩ = some (.int .i64 (b.getD k 0))) :
    Calls Tryz.prog 171 #[.slice (some ⟨b1, 0, none⟩) 8 8, .slice (some ⟨b2, 0, none⟩) 8 8] w fun e w' => e = .returned (.int .i64 (cmpL a b)) ∧ w' = w := by
  have H1 := Lib.hid h1
  have H2 := Lib.hid h2
  clear h1 h2
  go_enter Tryz.func171, Tryz.ntmps171
  go_wp2_with fail
  go_loopw [11] (fun i wr => ∃ k : Nat, k ≤ 8 ∧ i = .int .i64 k ∧ Hid (cmpL (a.drop k) (b.drop k) = cmpL a b) ∧ wr = w) (fun i _ => 8 - (intOf i).toNat)
  case atStart => exact ⟨0, Nat.zero_le _, rfl, rfl, by trivial⟩
  case round =>
    obtain ⟨k, hk, rfl, HC, rfl⟩ := hrel
    by_cases hlt : k < 8
    · have hc1 := H1.out k hlt
      have hc2 := H2.out k hlt
      have hd := cmpL_drop (a := a) (b := b) (k := k) (by omega) (by omega)
      obtain ⟨x, hx⟩ : ∃ x : Int, a.getD k 0 = x := ⟨_, rfl⟩
      obtain ⟨y, hy⟩ : ∃ y : Int, b.getD k 0 = y := ⟨_, rfl⟩
      rw [hx] at hc1
      rw [hy] at hc2
      rw [hx, hy, HC.out] at hd
      have HD := Lib.hid hd; clear hd
      have HX := Lib.hid (And.intro hx hy); clear hx hy
      go_wp2_with fail
      refine (compareI_ok _ _ _).mono ?_; rintro e w1 ⟨rfl, rfl⟩
      rcases Int.lt_trichotomy x y with hxy | hxy | hxy
      · rw [cmpZ_neg hxy]
        go_wp2_with fail
        go_ret
        exact ⟨by rw [HD.out, if_pos hxy]; rfl, rfl⟩
      · subst hxy
        rw [cmpZ_eq]
        go_wp2_with fail
        go_roundw
        case rel => exact ⟨k + 1, by omega, by go_num, by show _ = _; rw [HD.out, if_neg (by omega), if_neg (by omega)], by trivial⟩
        case measure => simp [intOf]; omega
      · rw [cmpZ_pos hxy]
        go_wp2_with fail
        go_ret
        exact ⟨by rw [HD.out, if_neg (by omega), if_pos hxy]; rfl, rfl⟩
    · obtain rfl : k = 8 := by omega
      go_wp2_with fail
      go_ret
      refine ⟨?_, rfl⟩
      rw [← HC.out, List.drop_of_length_le (by omega), List.drop_of_length_le (by omega)]; rfl

set_option maxHeartbeats 2000000 in
theorem mcmp_ok (w : World) (e0 e1 e2 e3 e4 e5 e6 e7 f0 f1 f2 f3 f4 f5 f6 f7 : Int) :
    Calls Tryz.prog 131 #[.agg #[.int .i64 e0, .int .i64 e1, .int .i64 e2, .int .i64 e3, .int .i64 e4, .int .i64 e5, .int .i64 e6, .int .i64 e7], .agg #[.int .i64 f0, .int .i64 f1, .int .i64 f2, .int .i64 f3, .int .i64 f4, .int .i64 f5, .int .i64 f6, .int .i64 f7]] w (RetV w (.int .i64 (cmpL [e0, e1, e2, e3, e4, e5, e6, e7] [f0, f1, f2, f3, f4, f5, f6, f7]))) := by
  have h1 : ∀ D k, k < 8 → (((w.alloc (.cells #[.int .i64 e0, .int .i64 e1, .int .i64 e2, .int .i64 e3, .int .i64 e4, .int .i64 e5, .int .i64 e6, .int .i64 e7] 68)).alloc (.cells #[.int .i64 f0, .int .i64 f1, .int .i64 f2, .int .i64 f3, .int .i64 f4, .int .i64 f5, .int .i64 f6, .int .i64 f7] 68)).drewN D).cell? ⟨w.heap.size, k, none⟩ = some (.int .i64 ([e0, e1, e2, e3, e4, e5, e6, e7].getD k 0)) := by
    intro D k hk
    rw [World.cell?_drewN, World.cell?_alloc_or, cell8 w 68 e0 e1 e2 e3 e4 e5 e6 e7 k hk]; rfl
  have h2 : ∀ D k, k < 8 → (((w.alloc (.cells #[.int .i64 e0, .int .i64 e1, .int .i64 e2, .int .i64 e3, .int .i64 e4, .int .i64 e5, .int .i64 e6, .int .i64 e7] 68)).alloc (.cells #[.int .i64 f0, .int .i64 f1, .int .i64 f2, .int .i64 f3, .int .i64 f4, .int .i64 f5, .int .i64 f6, .int .i64 f7] 68)).drewN D).cell? ⟨w.heap.size + 1, k, none⟩ = some (.int .i64 ([f0, f1, f2, f3, f4, f5, f6, f7].getD k 0)) := by
    intro D k hk
    have := cell8 (w.alloc (.cells #[.int .i64 e0, .int .i64 e1, .int .i64 e2, .int .i64 e3, .int .i64 e4, .int .i64 e5, .int .i64 e6, .int .i64 e7] 68)) 68 f0 f1 f2 f3 f4 f5 f6 f7 k hk
    rw [World.size_alloc] at this
    rw [World.cell?_drewN, this]
  have H1 := Lib.hid h1
  have H2 := Lib.hid h2
  clear h1 h2
  go_enter Tryz.func131, Tryz.ntmps131
  go_wp2_with fail
  go_region_held3 (fun _ => True) (trivial) (first | (go_at_call 171; refine (compare8_ok _ _ _ [e0, e1, e2, e3, e4, e5, e6, e7] [f0, f1, f2, f3, f4, f5, f6, f7] rfl rfl (fun k hk => H1.out 1 k hk) (fun k hk => H2.out 1 k hk)).mono ?_; rintro e w' ⟨rfl, rfl⟩))
  all_goals
    go_wp2_with fail
    go_ret
    exact RetV.mk rfl (by repeat first | with_reducible exact .refl .. | with_reducible assumption | refine .s ?_ ?_ | refine .m ?_ ?_ | refine .l ?_ ?_ | refine .d ?_ | refine .e ?_ | (simp <;> omega) | omega)

end Go.Proofs.YthhdleppkggepaaGreat

/-
  The walks of package polynomial and its reference: validity.
-/
namespace Go.Proofs.YthhdleppkggepaaGreat
open Go.RowKit Go.Deep
set_option maxRecDepth 100000

/-- A small rational number. -/
def Ty (q : Rat) : Prop := q.num.natAbs < 65536 ∧ q.den < 65536
theorem Ty.num {q : Rat} (h : Ty q) : wl q.num ≤ 1 := wl_small (by have := h.1; omega)
theorem Ty.den {q : Rat} (h : Ty q) : wl (q.den : Int) ≤ 1 := wl_small (by have := h.2; omega)
theorem Ty.few {q : Rat} (h : Ty q) : Few q := ⟨by have := h.num; omega, by have := h.den; omega⟩
theorem Ty.wee {q : Rat} (h : Ty q) : Wee q.den := Wee.of (by have := h.2; omega)
theorem Ty.wee2 {a b : Rat} (ha : Ty a) (hb : Ty b) : Wee (a.den * b.den) := Wee.of (by
  have h1 := ha.2
  have h2 := hb.2
  have : a.den * b.den < 65536 * 65536 := Nat.mul_lt_mul'' h1 h2
  omega)
theorem RQ.n1 {w : World} {ex : List Nat} {s1 : Bool} {A1 : Option Addr} {n1 c1 : Nat} {s2 : Bool} {A2 : Option Addr} {n2 c2 : Nat} {q : Rat} (h : RQ w ex s1 A1 n1 c1 s2 A2 n2 c2 q) (hq : Ty q) : n1 ≤ 1 := by rw [h.num.len]; exact hq.num
theorem RQ.n2 {w : World} {ex : List Nat} {s1 : Bool} {A1 : Option Addr} {n1 c1 : Nat} {s2 : Bool} {A2 : Option Addr} {n2 c2 : Nat} {q : Rat} (h : RQ w ex s1 A1 n1 c1 s2 A2 n2 c2 q) (hq : Ty q) : n2 ≤ 1 := by rw [h.den.len]; exact hq.den
def PTy (p : List (Rat × List Int)) : Prop := ∀ t ∈ p, Ty t.1

theorem sign_eq_zero {q : Rat} (h : q = 0) : (q.num.sign == 0) = true := by subst h; rfl
theorem sign_ne_zero {q : Rat} (h : q ≠ 0) : (q.num.sign == 0) = false := by
  rw [beq_eq_false_iff_ne]
  intro hh
  exact h (Rat.num_eq_zero.1 (Int.sign_eq_zero_iff_zero.1 hh))
theorem not_valid1 {p : List (Rat × List Int)} {k : Nat} (hk : k < p.length) (h : p[k].1 = 0) : validB p = false := by
  rw [Bool.eq_false_iff]
  intro hv
  exact ((validB_iff p).1 hv).1 k hk h
theorem not_valid2 {p : List (Rat × List Int)} {k : Nat} (hk : k + 1 < p.length) (h : cmpL p[k].2 p[k + 1].2 ≤ 0) : validB p = false := by
  rw [Bool.eq_false_iff]
  intro hv
  have := ((validB_iff p).1 hv).2 k hk
  omega
/-- The first k terms are all right. -/
def OkTo (p : List (Rat × List Int)) (k : Nat) : Prop := ∀ i (h : i < p.length), i < k → p[i].1 ≠ 0 ∧ ∀ j (hj : j + 1 = i), 0 < cmpL p[j].2 p[i].2
theorem OkTo.zero (p : List (Rat × List Int)) : OkTo p 0 := fun i _ h => by omega
theorem OkTo.all {p : List (Rat × List Int)} (h : OkTo p p.length) : validB p = true := by
  rw [validB_iff]
  exact ⟨fun i hi => (h i hi hi).1, fun i hi => (h (i + 1) hi hi).2 i rfl⟩
theorem OkTo.step {p : List (Rat × List Int)} {k : Nat} (h : OkTo p k) (hk : k < p.length) (h1 : p[k].1 ≠ 0) (h2 : ∀ j (hj : j + 1 = k), 0 < cmpL p[j].2 p[k].2) : OkTo p (k + 1) := by
  intro i hi hik
  by_cases e : i = k
  · subst e; exact ⟨h1, h2⟩
  · exact h i hi (by omega)

set_option maxHeartbeats 4000000 in
theorem r6valid_ok (w : World) (ex : List Nat) (A : Option Addr) (n c : Nat) (p : List (Rat × List Int)) (hx : RP w ex A n c p) (hp : PExps p) (hty : PTy p) (hn : n ≤ 1000000000) :
    Calls Tryz.prog 147 #[.slice A n c] w (RetV w (.bool (validB p))) := by
  have HL := Lib.hid hx.len
  have hcap := hx.cap
  have HP := Lib.hid hp
  have HT := Lib.hid hty
  clear hp hty
  go_enter Tryz.func147, Tryz.ntmps147
  go_wp2_with fail
  go_loopw [3] (fun i wr => ∃ k : Nat, k ≤ n ∧ i = .int .i64 k ∧ Hid (OkTo p k) ∧ Below w.heap.size w wr) (fun i _ => n - (intOf i).toNat)
  case atStart => exact ⟨0, Nat.zero_le _, rfl, Lib.hid (OkTo.zero p), Below.refl _ _⟩
  case round =>
    obtain ⟨k, hk, rfl, HOK, hb⟩ := hrel
    by_cases hlt : k < n
    · have hxw := hx.mono (Kr.of_below hb ex)
      obtain ⟨b, o, rfl, hbx, hbl, ht⟩ := hxw.at_ (by omega)
      have hkp : k < p.length := by have := HL.out; omega
      have hsz := hb.size
      have HH := Lib.hid ht
      obtain ⟨s1, A1, n1, c1, s2, A2, n2, c2, e0, e1, e2, e3, e4, e5, e6, e7, h0, h1, h2, h3, h4, h5, h6, h7, h8, h9, h10, h11, hq, hm⟩ := ht k hkp
      have hd1 : wr.cell? ⟨b, o + k * 12 + 4 + 1, none⟩ = some (.int .i64 e1) := h5
      have hd2 : wr.cell? ⟨b, o + k * 12 + 4 + 2, none⟩ = some (.int .i64 e2) := h6
      have hd3 : wr.cell? ⟨b, o + k * 12 + 4 + 3, none⟩ = some (.int .i64 e3) := h7
      have hd4 : wr.cell? ⟨b, o + k * 12 + 4 + 4, none⟩ = some (.int .i64 e4) := h8
      have hd5 : wr.cell? ⟨b, o + k * 12 + 4 + 5, none⟩ = some (.int .i64 e5) := h9
      have hd6 : wr.cell? ⟨b, o + k * 12 + 4 + 6, none⟩ = some (.int .i64 e6) := h10
      have hd7 : wr.cell? ⟨b, o + k * 12 + 4 + 7, none⟩ = some (.int .i64 e7) := h11
      have hT : Ty p[k].1 := HT.out _ (List.getElem_mem hkp)
      have hE : Exps [e0, e1, e2, e3, e4, e5, e6, e7] := by rw [← hm]; exact HP.out _ (List.getElem_mem hkp)
      have hn1 := hq.n1 hT
      have hn2 := hq.n2 hT
      have HM := Lib.hid hm
      clear h5 h6 h7 h8 h9 h10 h11 hm ht
      by_cases hz : p[k].1 = 0
      · have hsg := sign_eq_zero hz
        have HV := Lib.hid (not_valid1 hkp hz)
        obtain ⟨q, hqq⟩ : ∃ q, p[k].1 = q := ⟨_, rfl⟩
        rw [hqq] at hq hsg hT
        clear hz hqq
        go_wp2_with fail
        refine (r2valid_ok _ ex _ _ _ _ _ _ _ _ _ hq hT.wee (by omega) (by omega)).mono ?_; rintro e w' ⟨X, D, rfl, rfl⟩
        go_wp2_with fail
        refine (r2sign_ok _ ex _ _ _ _ _ _ _ _ _ (hq.mono (by repeat (first | (with_reducible exact Kr.refl _ _) | (with_reducible assumption) | refine Kr.setCell ?_ _ (by simp) | refine Kr.more ?_ _ _ | refine Kr.alloc_ ?_ _ | refine Kr.drew ?_ | refine Kr.drewN ?_ _)))).mono ?_; rintro e w' ⟨X2, D2, rfl, rfl⟩
        go_wp2_with fail
        go_ret
        rw [HV.out]
        exact RetV.mk rfl (by repeat first | with_reducible exact .refl .. | with_reducible assumption | refine .s ?_ ?_ | refine .m ?_ ?_ | refine .l ?_ ?_ | refine .d ?_ | refine .e ?_ | (simp <;> omega) | omega)
      · have hsg := sign_ne_zero hz
        have HZ := Lib.hid hz
        obtain ⟨q, hqq⟩ : ∃ q, p[k].1 = q := ⟨_, rfl⟩
        rw [hqq] at hq hsg hT
        clear hz hqq
        go_wp2_with fail
        refine (r2valid_ok _ ex _ _ _ _ _ _ _ _ _ hq hT.wee (by omega) (by omega)).mono ?_; rintro e w' ⟨X, D, rfl, rfl⟩
        go_wp2_with fail
        refine (r2sign_ok _ ex _ _ _ _ _ _ _ _ _ (hq.mono (by repeat (first | (with_reducible exact Kr.refl _ _) | (with_reducible assumption) | refine Kr.setCell ?_ _ (by simp) | refine Kr.more ?_ _ _ | refine Kr.alloc_ ?_ _ | refine Kr.drew ?_ | refine Kr.drewN ?_ _)))).mono ?_; rintro e w' ⟨X2, D2, rfl, rfl⟩
        go_wp2_with fail
        refine (r4valid_ok _ _ _ _ _ _ _ _ _ hE).mono ?_; rintro e w' ⟨X3, D3, rfl, rfl⟩
        clear hq
        by_cases hk0 : k = 0
        · subst hk0
          go_wp2_with fail
          go_quiet (fail)
          go_wp2_with fail
          go_roundw
          case rel => exact ⟨1, by omega, rfl, Lib.hid (HOK.out.step hkp HZ.out (fun j hj => by omega)), (by repeat first | with_reducible exact .refl .. | with_reducible assumption | refine .s ?_ ?_ | refine .m ?_ ?_ | refine .l ?_ ?_ | refine .d ?_ | refine .e ?_ | (simp <;> omega) | omega)⟩
          case measure => simp [intOf]; omega
        · obtain ⟨j, hj⟩ : ∃ j, k = j + 1 := ⟨k - 1, by omega⟩
          have hjp : j < p.length := by omega
          have HN : Hid (validB p = false ∨ 0 < cmpL (p[j]'hjp).2 p[k].2) := by
            by_cases hc : 0 < cmpL (p[j]'hjp).2 p[k].2
            · exact .inr hc
            · subst hj; exact .inl (not_valid2 (k := j) hkp (by omega))
          have hw1 : IntKind.i64.wrap ((k : Int) - 1) = (j : Int) := by simp [IntKind.wrap, IntKind.bits, IntKind.signed]; omega
          have hi1 : (0 : Int) ≤ (j : Int) := by omega
          have hi2 : (j : Int) < (n : Int) := by omega
          have hi3 : 0 < k := by omega
          have HJ : Hid (∀ i, i + 1 = k → i = j) := fun i hi => by omega
          clear hj
          obtain ⟨s3, A3, n3, c3, s4, A4, n4, c4, f0, f1, f2, f3, f4, f5, f6, f7, g0, g1, g2, g3, g4, g5, g6, g7, g8, g9, g10, g11, gq, gm⟩ := HH.out j hjp
          have gd1 : wr.cell? ⟨b, o + j * 12 + 4 + 1, none⟩ = some (.int .i64 f1) := g5
          have gd2 : wr.cell? ⟨b, o + j * 12 + 4 + 2, none⟩ = some (.int .i64 f2) := g6
          have gd3 : wr.cell? ⟨b, o + j * 12 + 4 + 3, none⟩ = some (.int .i64 f3) := g7
          have gd4 : wr.cell? ⟨b, o + j * 12 + 4 + 4, none⟩ = some (.int .i64 f4) := g8
          have gd5 : wr.cell? ⟨b, o + j * 12 + 4 + 5, none⟩ = some (.int .i64 f5) := g9
          have gd6 : wr.cell? ⟨b, o + j * 12 + 4 + 6, none⟩ = some (.int .i64 f6) := g10
          have gd7 : wr.cell? ⟨b, o + j * 12 + 4 + 7, none⟩ = some (.int .i64 f7) := g11
          clear gq g0 g1 g2 g3 g5 g6 g7 g8 g9 g10 g11
          have HG := Lib.hid gm
          clear gm
          by_cases hc : 0 < cmpL [f0, f1, f2, f3, f4, f5, f6, f7] [e0, e1, e2, e3, e4, e5, e6, e7]
          · obtain ⟨z, hzz⟩ : ∃ z, cmpL [f0, f1, f2, f3, f4, f5, f6, f7] [e0, e1, e2, e3, e4, e5, e6, e7] = z := ⟨_, rfl⟩
            have HZZ := Lib.hid hzz
            rw [hzz] at hc
            clear hzz
            go_wp2_with fail
            go_region_held3 (fun w' => w'.cell? ⟨b, o + j * 12 + 4, none⟩ = some (.int .i64 f0) ∧ w'.cell? ⟨b, o + j * 12 + 4 + 1, none⟩ = some (.int .i64 f1) ∧ w'.cell? ⟨b, o + j * 12 + 4 + 2, none⟩ = some (.int .i64 f2) ∧ w'.cell? ⟨b, o + j * 12 + 4 + 3, none⟩ = some (.int .i64 f3) ∧ w'.cell? ⟨b, o + j * 12 + 4 + 4, none⟩ = some (.int .i64 f4) ∧ w'.cell? ⟨b, o + j * 12 + 4 + 5, none⟩ = some (.int .i64 f5) ∧ w'.cell? ⟨b, o + j * 12 + 4 + 6, none⟩ = some (.int .i64 f6) ∧ w'.cell? ⟨b, o + j * 12 + 4 + 7, none⟩ = some (.int .i64 f7) ∧ w'.cell? ⟨b, o + k * 12 + 4, none⟩ = some (.int .i64 e0) ∧ w'.cell? ⟨b, o + k * 12 + 4 + 1, none⟩ = some (.int .i64 e1) ∧ w'.cell? ⟨b, o + k * 12 + 4 + 2, none⟩ = some (.int .i64 e2) ∧ w'.cell? ⟨b, o + k * 12 + 4 + 3, none⟩ = some (.int .i64 e3) ∧ w'.cell? ⟨b, o + k * 12 + 4 + 4, none⟩ = some (.int .i64 e4) ∧ w'.cell? ⟨b, o + k * 12 + 4 + 5, none⟩ = some (.int .i64 e5) ∧ w'.cell? ⟨b, o + k * 12 + 4 + 6, none⟩ = some (.int .i64 e6) ∧ w'.cell? ⟨b, o + k * 12 + 4 + 7, none⟩ = some (.int .i64 e7))
              ((repeat' apply And.intro) <;> first | (simp [*, go_sem, ↓IntWalk.iteOmega]; done) | (refine got_of ?_; simp [*, go_sem, ↓IntWalk.iteOmega]; done))
              (first | (go_at_call 85; refine (r4cmp_ok _ f0 f1 f2 f3 f4 f5 f6 f7 e0 e1 e2 e3 e4 e5 e6 e7).mono ?_; rintro e w' ⟨X4, D4, rfl, rfl⟩; rw [HZZ.out]))
            all_goals
              go_wp2_with fail
              go_roundw
              case rel => exact ⟨k + 1, by omega, by go_num, Lib.hid (HOK.out.step hkp HZ.out (fun i hi => by cases HJ.out i hi; rw [HG.out, HM.out, HZZ.out]; exact hc)), (by repeat first | with_reducible exact .refl .. | with_reducible assumption | refine .s ?_ ?_ | refine .m ?_ ?_ | refine .l ?_ ?_ | refine .d ?_ | refine .e ?_ | (simp <;> omega) | omega)⟩
              case measure => simp [intOf]; omega
          · have HV : Hid (validB p = false) := by
              rcases HN.out with hv | hv
              · exact hv
              · rw [HG.out, HM.out] at hv; omega
            obtain ⟨z, hzz⟩ : ∃ z, cmpL [f0, f1, f2, f3, f4, f5, f6, f7] [e0, e1, e2, e3, e4, e5, e6, e7] = z := ⟨_, rfl⟩
            have HZZ := Lib.hid hzz
            rw [hzz] at hc
            clear hzz
            go_wp2_with fail
            go_region_held3 (fun w' => w'.cell? ⟨b, o + j * 12 + 4, none⟩ = some (.int .i64 f0) ∧ w'.cell? ⟨b, o + j * 12 + 4 + 1, none⟩ = some (.int .i64 f1) ∧ w'.cell? ⟨b, o + j * 12 + 4 + 2, none⟩ = some (.int .i64 f2) ∧ w'.cell? ⟨b, o + j * 12 + 4 + 3, none⟩ = some (.int .i64 f3) ∧ w'.cell? ⟨b, o + j * 12 + 4 + 4, none⟩ = some (.int .i64 f4) ∧ w'.cell? ⟨b, o + j * 12 + 4 + 5, none⟩ = some (.int .i64 f5) ∧ w'.cell? ⟨b, o + j * 12 + 4 + 6, none⟩ = some (.int .i64 f6) ∧ w'.cell? ⟨b, o + j * 12 + 4 + 7, none⟩ = some (.int .i64 f7) ∧ w'.cell? ⟨b, o + k * 12 + 4, none⟩ = some (.int .i64 e0) ∧ w'.cell? ⟨b, o + k * 12 + 4 + 1, none⟩ = some (.int .i64 e1) ∧ w'.cell? ⟨b, o + k * 12 + 4 + 2, none⟩ = some (.int .i64 e2) ∧ w'.cell? ⟨b, o + k * 12 + 4 + 3, none⟩ = some (.int .i64 e3) ∧ w'.cell? ⟨b, o + k * 12 + 4 + 4, none⟩ = some (.int .i64 e4) ∧ w'.cell? ⟨b, o + k * 12 + 4 + 5, none⟩ = some (.int .i64 e5) ∧ w'.cell? ⟨b, o + k * 12 + 4 + 6, none⟩ = some (.int .i64 e6) ∧ w'.cell? ⟨b, o + k * 12 + 4 + 7, none⟩ = some (.int .i64 e7))
              ((repeat' apply And.intro) <;> first | (simp [*, go_sem, ↓IntWalk.iteOmega]; done) | (refine got_of ?_; simp [*, go_sem, ↓IntWalk.iteOmega]; done))
              (first | (go_at_call 85; refine (r4cmp_ok _ f0 f1 f2 f3 f4 f5 f6 f7 e0 e1 e2 e3 e4 e5 e6 e7).mono ?_; rintro e w' ⟨X4, D4, rfl, rfl⟩; rw [HZZ.out]))
            all_goals
              go_wp2_with fail
              go_ret
              rw [HV.out]
              exact RetV.mk rfl (by repeat first | with_reducible exact .refl .. | with_reducible assumption | refine .s ?_ ?_ | refine .m ?_ ?_ | refine .l ?_ ?_ | refine .d ?_ | refine .e ?_ | (simp <;> omega) | omega)
    · obtain rfl : k = n := by omega
      go_wp2_with fail
      go_ret
      refine RetV.mk ?_ hb
      rw [(show OkTo p p.length from by rw [← HL.out]; exact HOK.out).all]; rfl

set_option maxHeartbeats 4000000 in
theorem pvalid_ok (w : World) (ex : List Nat) (A : Option Addr) (n c : Nat) (p : List (Rat × List Int)) (hx : RP w ex A n c p) (hp : PExps p) (hty : PTy p) (hn : n ≤ 1000000000) :
    Calls Tryz.prog 88 #[.slice A n c] w (RetV w (.bool (validB p))) := by
  have HL := Lib.hid hx.len
  have hcap := hx.cap
  have HP := Lib.hid hp
  have HT := Lib.hid hty
  clear hp hty
  go_enter Tryz.func88, Tryz.ntmps88
  go_wp2_with fail
  go_loopw [3, 7] (fun _ i wr => ∃ k : Nat, k ≤ n ∧ i = .int .i64 k ∧ Hid (OkTo p k) ∧ Below w.heap.size w wr) (fun _ i _ => n - (intOf i).toNat)
  case atStart => exact ⟨0, Nat.zero_le _, rfl, Lib.hid (OkTo.zero p), Below.refl _ _⟩
  case round =>
    obtain ⟨k, hk, rfl, HOK, hb⟩ := hrel
    by_cases hlt : k < n
    · have hxw := hx.mono (Kr.of_below hb ex)
      obtain ⟨b, o, rfl, hbx, hbl, ht⟩ := hxw.at_ (by omega)
      have hkp : k < p.length := by have := HL.out; omega
      have hsz := hb.size
      have HH := Lib.hid ht
      obtain ⟨s1, A1, n1, c1, s2, A2, n2, c2, e0, e1, e2, e3, e4, e5, e6, e7, h0, h1, h2, h3, h4, h5, h6, h7, h8, h9, h10, h11, hq, hm⟩ := ht k hkp
      have hT : Ty p[k].1 := HT.out _ (List.getElem_mem hkp)
      have hE : Exps [e0, e1, e2, e3, e4, e5, e6, e7] := by rw [← hm]; exact HP.out _ (List.getElem_mem hkp)
      have hn1 := hq.n1 hT
      have hn2 := hq.n2 hT
      have HM := Lib.hid hm
      clear hm ht
      by_cases hz : p[k].1 = 0
      · have hsg := sign_eq_zero hz
        have HV := Lib.hid (not_valid1 hkp hz)
        obtain ⟨q, hqq⟩ : ∃ q, p[k].1 = q := ⟨_, rfl⟩
        rw [hqq] at hq hsg hT
        clear hz hqq
        go_wp2_with fail
        refine (ratvalid_ok _ ex _ _ _ _ _ _ _ _ _ (hq.mono (by repeat (first | (with_reducible exact Kr.refl _ _) | (with_reducible assumption) | refine Kr.setCell ?_ _ (by simp) | refine Kr.more ?_ _ _ | refine Kr.alloc_ ?_ _ | refine Kr.drew ?_ | refine Kr.drewN ?_ _))) hT.wee (by omega) (by omega)).mono ?_; rintro e w' ⟨X, D, rfl, rfl⟩
        go_wp2_with fail
        refine (ratsign_ok _ ex _ _ _ _ _ _ _ _ _ (hq.mono (by repeat (first | (with_reducible exact Kr.refl _ _) | (with_reducible assumption) | refine Kr.setCell ?_ _ (by simp) | refine Kr.more ?_ _ _ | refine Kr.alloc_ ?_ _ | refine Kr.drew ?_ | refine Kr.drewN ?_ _)))).mono ?_; rintro e w' ⟨X2, D2, rfl, rfl⟩
        go_wp2_with fail
        go_ret
        rw [HV.out]
        exact RetV.mk rfl (by repeat first | with_reducible exact .refl .. | with_reducible assumption | refine .s ?_ ?_ | refine .m ?_ ?_ | refine .l ?_ ?_ | refine .d ?_ | refine .e ?_ | (simp <;> omega) | omega)
      · have hsg := sign_ne_zero hz
        have HZ := Lib.hid hz
        obtain ⟨q, hqq⟩ : ∃ q, p[k].1 = q := ⟨_, rfl⟩
        rw [hqq] at hq hsg hT
        clear hz hqq
        go_wp2_with fail
        refine (ratvalid_ok _ ex _ _ _ _ _ _ _ _ _ (hq.mono (by repeat (first | (with_reducible exact Kr.refl _ _) | (with_reducible assumption) | refine Kr.setCell ?_ _ (by simp) | refine Kr.more ?_ _ _ | refine Kr.alloc_ ?_ _ | refine Kr.drew ?_ | refine Kr.drewN ?_ _))) hT.wee (by omega) (by omega)).mono ?_; rintro e w' ⟨X, D, rfl, rfl⟩
        go_wp2_with fail
        refine (ratsign_ok _ ex _ _ _ _ _ _ _ _ _ (hq.mono (by repeat (first | (with_reducible exact Kr.refl _ _) | (with_reducible assumption) | refine Kr.setCell ?_ _ (by simp) | refine Kr.more ?_ _ _ | refine Kr.alloc_ ?_ _ | refine Kr.drew ?_ | refine Kr.drewN ?_ _)))).mono ?_; rintro e w' ⟨X2, D2, rfl, rfl⟩
        go_wp2_with fail
        refine (mvalid_ok _ _ _ _ _ _ _ _ _ hE).mono ?_; rintro e w' ⟨X3, D3, rfl, rfl⟩
        clear hq
        by_cases hk0 : k = 0
        · subst hk0
          go_wp2_with fail
          go_quiet (fail)
          go_wp2_with fail
          go_roundw
          case rel => exact ⟨1, by omega, rfl, Lib.hid (HOK.out.step hkp HZ.out (fun j hj => by omega)), (by repeat first | with_reducible exact .refl .. | with_reducible assumption | refine .s ?_ ?_ | refine .m ?_ ?_ | refine .l ?_ ?_ | refine .d ?_ | refine .e ?_ | (simp <;> omega) | omega)⟩
          case measure => simp [intOf]; omega
        · obtain ⟨j, hj⟩ : ∃ j, k = j + 1 := ⟨k - 1, by omega⟩
          have hjp : j < p.length := by omega
          have HN : Hid (validB p = false ∨ 0 < cmpL (p[j]'hjp).2 p[k].2) := by
            by_cases hc : 0 < cmpL (p[j]'hjp).2 p[k].2
            · exact .inr hc
            · subst hj; exact .inl (not_valid2 (k := j) hkp (by omega))
          have hw1 : IntKind.i64.wrap ((k : Int) - 1) = (j : Int) := by simp [IntKind.wrap, IntKind.bits, IntKind.signed]; omega
          have hi1 : (0 : Int) ≤ (j : Int) := by omega
          have hi2 : (j : Int) < (n : Int) := by omega
          have hi3 : 0 < k := by omega
          have HJ : Hid (∀ i, i + 1 = k → i = j) := fun i hi => by omega
          clear hj
          obtain ⟨s3, A3, n3, c3, s4, A4, n4, c4, f0, f1, f2, f3, f4, f5, f6, f7, g0, g1, g2, g3, g4, g5, g6, g7, g8, g9, g10, g11, gq, gm⟩ := HH.out j hjp
          have gd1 : wr.cell? ⟨b, o + j * 12 + 4 + 1, none⟩ = some (.int .i64 f1) := g5
          have gd2 : wr.cell? ⟨b, o + j * 12 + 4 + 2, none⟩ = some (.int .i64 f2) := g6
          have gd3 : wr.cell? ⟨b, o + j * 12 + 4 + 3, none⟩ = some (.int .i64 f3) := g7
          have gd4 : wr.cell? ⟨b, o + j * 12 + 4 + 4, none⟩ = some (.int .i64 f4) := g8
          have gd5 : wr.cell? ⟨b, o + j * 12 + 4 + 5, none⟩ = some (.int .i64 f5) := g9
          have gd6 : wr.cell? ⟨b, o + j * 12 + 4 + 6, none⟩ = some (.int .i64 f6) := g10
          have gd7 : wr.cell? ⟨b, o + j * 12 + 4 + 7, none⟩ = some (.int .i64 f7) := g11
          clear gq g0 g1 g2 g3 g5 g6 g7 g8 g9 g10 g11
          have HG := Lib.hid gm
          clear gm
          by_cases hc : 0 < cmpL [f0, f1, f2, f3, f4, f5, f6, f7] [e0, e1, e2, e3, e4, e5, e6, e7]
          · obtain ⟨z, hzz⟩ : ∃ z, cmpL [f0, f1, f2, f3, f4, f5, f6, f7] [e0, e1, e2, e3, e4, e5, e6, e7] = z := ⟨_, rfl⟩
            have HZZ := Lib.hid hzz
            rw [hzz] at hc
            clear hzz
            go_wp2_with fail
            go_region_held3 (fun w' => w'.cell? ⟨b, o + j * 12 + 4, none⟩ = some (.int .i64 f0) ∧ w'.cell? ⟨b, o + j * 12 + 4 + 1, none⟩ = some (.int .i64 f1) ∧ w'.cell? ⟨b, o + j * 12 + 4 + 2, none⟩ = some (.int .i64 f2) ∧ w'.cell? ⟨b, o + j * 12 + 4 + 3, none⟩ = some (.int .i64 f3) ∧ w'.cell? ⟨b, o + j * 12 + 4 + 4, none⟩ = some (.int .i64 f4) ∧ w'.cell? ⟨b, o + j * 12 + 4 + 5, none⟩ = some (.int .i64 f5) ∧ w'.cell? ⟨b, o + j * 12 + 4 + 6, none⟩ = some (.int .i64 f6) ∧ w'.cell? ⟨b, o + j * 12 + 4 + 7, none⟩ = some (.int .i64 f7) ∧ w'.cell? ⟨wr.heap.size, 4, none⟩ = some (.int .i64 e0) ∧ w'.cell? ⟨wr.heap.size, 4 + 1, none⟩ = some (.int .i64 e1) ∧ w'.cell? ⟨wr.heap.size, 4 + 2, none⟩ = some (.int .i64 e2) ∧ w'.cell? ⟨wr.heap.size, 4 + 3, none⟩ = some (.int .i64 e3) ∧ w'.cell? ⟨wr.heap.size, 4 + 4, none⟩ = some (.int .i64 e4) ∧ w'.cell? ⟨wr.heap.size, 4 + 5, none⟩ = some (.int .i64 e5) ∧ w'.cell? ⟨wr.heap.size, 4 + 6, none⟩ = some (.int .i64 e6) ∧ w'.cell? ⟨wr.heap.size, 4 + 7, none⟩ = some (.int .i64 e7))
              ((repeat' apply And.intro) <;> first | (simp [*, go_sem, ↓IntWalk.iteOmega]; done) | (refine got_of ?_; simp [*, go_sem, ↓IntWalk.iteOmega]; done))
              (first | (go_at_call 131; refine (mcmp_ok _ f0 f1 f2 f3 f4 f5 f6 f7 e0 e1 e2 e3 e4 e5 e6 e7).mono ?_; rintro e w' ⟨X4, D4, rfl, rfl⟩; rw [HZZ.out]))
            all_goals
              go_wp2_with fail
              go_roundw
              case rel => exact ⟨k + 1, by omega, by go_num, Lib.hid (HOK.out.step hkp HZ.out (fun i hi => by cases HJ.out i hi; rw [HG.out, HM.out, HZZ.out]; exact hc)), (by repeat first | with_reducible exact .refl .. | with_reducible assumption | refine .s ?_ ?_ | refine .m ?_ ?_ | refine .l ?_ ?_ | refine .d ?_ | refine .e ?_ | (simp <;> omega) | omega)⟩
              case measure => simp [intOf]; omega
          · have HV : Hid (validB p = false) := by
              rcases HN.out with hv | hv
              · exact hv
              · rw [HG.out, HM.out] at hv; omega
            obtain ⟨z, hzz⟩ : ∃ z, cmpL [f0, f1, f2, f3, f4, f5, f6, f7] [e0, e1, e2, e3, e4, e5, e6, e7] = z := ⟨_, rfl⟩
            have HZZ := Lib.hid hzz
            rw [hzz] at hc
            clear hzz
            go_wp2_with fail
            go_region_held3 (fun w' => w'.cell? ⟨b, o + j * 12 + 4, none⟩ = some (.int .i64 f0) ∧ w'.cell? ⟨b, o + j * 12 + 4 + 1, none⟩ = some (.int .i64 f1) ∧ w'.cell? ⟨b, o + j * 12 + 4 + 2, none⟩ = some (.int .i64 f2) ∧ w'.cell? ⟨b, o + j * 12 + 4 + 3, none⟩ = some (.int .i64 f3) ∧ w'.cell? ⟨b, o + j * 12 + 4 + 4, none⟩ = some (.int .i64 f4) ∧ w'.cell? ⟨b, o + j * 12 + 4 + 5, none⟩ = some (.int .i64 f5) ∧ w'.cell? ⟨b, o + j * 12 + 4 + 6, none⟩ = some (.int .i64 f6) ∧ w'.cell? ⟨b, o + j * 12 + 4 + 7, none⟩ = some (.int .i64 f7) ∧ w'.cell? ⟨wr.heap.size, 4, none⟩ = some (.int .i64 e0) ∧ w'.cell? ⟨wr.heap.size, 4 + 1, none⟩ = some (.int .i64 e1) ∧ w'.cell? ⟨wr.heap.size, 4 + 2, none⟩ = some (.int .i64 e2) ∧ w'.cell? ⟨wr.heap.size, 4 + 3, none⟩ = some (.int .i64 e3) ∧ w'.cell? ⟨wr.heap.size, 4 + 4, none⟩ = some (.int .i64 e4) ∧ w'.cell? ⟨wr.heap.size, 4 + 5, none⟩ = some (.int .i64 e5) ∧ w'.cell? ⟨wr.heap.size, 4 + 6, none⟩ = some (.int .i64 e6) ∧ w'.cell? ⟨wr.heap.size, 4 + 7, none⟩ = some (.int .i64 e7))
              ((repeat' apply And.intro) <;> first | (simp [*, go_sem, ↓IntWalk.iteOmega]; done) | (refine got_of ?_; simp [*, go_sem, ↓IntWalk.iteOmega]; done))
              (first | (go_at_call 131; refine (mcmp_ok _ f0 f1 f2 f3 f4 f5 f6 f7 e0 e1 e2 e3 e4 e5 e6 e7).mono ?_; rintro e w' ⟨X4, D4, rfl, rfl⟩; rw [HZZ.out]))
            all_goals
              go_wp2_with fail
              go_ret
              rw [HV.out]
              exact RetV.mk rfl (by repeat first | with_reducible exact .refl .. | with_reducible assumption | refine .s ?_ ?_ | refine .m ?_ ?_ | refine .l ?_ ?_ | refine .d ?_ | refine .e ?_ | (simp <;> omega) | omega)
    · obtain rfl : k = n := by omega
      go_wp2_with fail
      go_ret
      refine RetV.mk ?_ hb
      rw [(show OkTo p p.length from by rw [← HL.out]; exact HOK.out).all]; rfl

end Go.Proofs.YthhdleppkggepaaGreat

/-
  Terms as elements of slices.
-/
namespace Go.Proofs.YthhdleppkggepaaGreat
open Go.RowKit Go.Deep
set_option maxRecDepth 100000

def tmRd (w : World) (ex : List Nat) (t : Rat × List Int) (vs : List Value) : Prop :=
  ∃ s1 A1 n1 c1 s2 A2 n2 c2 e0 e1 e2 e3 e4 e5 e6 e7, vs = [.bool s1, .slice A1 n1 c1, .bool s2, .slice A2 n2 c2, .int .i64 e0, .int .i64 e1, .int .i64 e2, .int .i64 e3, .int .i64 e4, .int .i64 e5, .int .i64 e6, .int .i64 e7] ∧ RQ w ex s1 A1 n1 c1 s2 A2 n2 c2 t.1 ∧ t.2 = [e0, e1, e2, e3, e4, e5, e6, e7]
theorem infoTerm : (Tryz.prog.info? 118).map (fun i => (i.zero, i.size, i.bytes)) = some (some (.agg #[.bool false, .slice none 0 0, .bool false, .slice none 0 0, .int .i64 0, .int .i64 0, .int .i64 0, .int .i64 0, .int .i64 0, .int .i64 0, .int .i64 0, .int .i64 0]), 12, 128) := by kernel_rfl
def tmE : Elt (Rat × List Int) where
  ty := 118
  size := 12
  bytes := 128
  rd := tmRd
  pos := by decide
  few := by decide
  mono := by
    rintro w w' ex ex' x vs k ⟨s1, A1, n1, c1, s2, A2, n2, c2, e0, e1, e2, e3, e4, e5, e6, e7, rfl, hq, hm⟩
    exact ⟨s1, A1, n1, c1, s2, A2, n2, c2, e0, e1, e2, e3, e4, e5, e6, e7, rfl, hq.mono k, hm⟩
  len := by
    rintro w ex x vs ⟨s1, A1, n1, c1, s2, A2, n2, c2, e0, e1, e2, e3, e4, e5, e6, e7, rfl, hq, hm⟩
    rfl
  one := by
    rintro w ex x vs ⟨s1, A1, n1, c1, s2, A2, n2, c2, e0, e1, e2, e3, e4, e5, e6, e7, rfl, hq, hm⟩ u hu
    simp only [List.mem_cons, List.not_mem_nil, or_false] at hu
    rcases hu with rfl | rfl | rfl | rfl | rfl | rfl | rfl | rfl | rfl | rfl | rfl | rfl <;> rfl
  info := by
    obtain ⟨i, h1, h2, h3, h4⟩ := info_parts infoTerm
    exact ⟨i, _, h1, h2, h3, h4, rfl⟩
theorem RP.of_rl {w : World} {ex : List Nat} {A : Option Addr} {n c : Nat} {p : List (Rat × List Int)} (h : RL tmE w ex A n c p) : RP w ex A n c p := by
  refine ⟨h.len, h.cap, fun h0 => ?_⟩
  obtain ⟨b, o, e, hx, hb, ht⟩ := h.at_ h0
  refine ⟨b, o, e, hx, hb, fun i hi => ?_⟩
  obtain ⟨vs, ⟨s1, A1, n1, c1, s2, A2, n2, c2, e0, e1, e2, e3, e4, e5, e6, e7, rfl, hq, hm⟩, hc⟩ := ht i hi
  exact ⟨s1, A1, n1, c1, s2, A2, n2, c2, e0, e1, e2, e3, e4, e5, e6, e7, hc 0 _ rfl, hc 1 _ rfl, hc 2 _ rfl, hc 3 _ rfl, hc 4 _ rfl, hc 5 _ rfl, hc 6 _ rfl, hc 7 _ rfl, hc 8 _ rfl, hc 9 _ rfl, hc 10 _ rfl, hc 11 _ rfl, hq, hm⟩
theorem RP.rl {w : World} {ex : List Nat} {A : Option Addr} {n c : Nat} {p : List (Rat × List Int)} (h : RP w ex A n c p) : RL tmE w ex A n c p := by
  refine ⟨h.len, h.cap, fun h0 => ?_⟩
  obtain ⟨b, o, e, hx, hb, ht⟩ := h.at_ h0
  refine ⟨b, o, e, hx, hb, fun i hi => ?_⟩
  obtain ⟨s1, A1, n1, c1, s2, A2, n2, c2, e0, e1, e2, e3, e4, e5, e6, e7, h0, h1, h2, h3, h4, h5, h6, h7, h8, h9, h10, h11, hq, hm⟩ := ht i hi
  refine ⟨_, ⟨s1, A1, n1, c1, s2, A2, n2, c2, e0, e1, e2, e3, e4, e5, e6, e7, rfl, hq, hm⟩, fun j u hu => ?_⟩
  match j, hu with
  | 0, hu => cases hu; exact h0
  | 1, hu => cases hu; exact h1
  | 2, hu => cases hu; exact h2
  | 3, hu => cases hu; exact h3
  | 4, hu => cases hu; exact h4
  | 5, hu => cases hu; exact h5
  | 6, hu => cases hu; exact h6
  | 7, hu => cases hu; exact h7
  | 8, hu => cases hu; exact h8
  | 9, hu => cases hu; exact h9
  | 10, hu => cases hu; exact h10
  | 11, hu => cases hu; exact h11
  | j + 12, hu => simp at hu

theorem RQ.avoid {w : World} {ex : List Nat} {s1 : Bool} {A1 : Option Addr} {n1 c1 : Nat} {s2 : Bool} {A2 : Option Addr} {n2 c2 : Nat} {q : Rat} (h : RQ w ex s1 A1 n1 c1 s2 A2 n2 c2 q) {g : Nat} (hg : NoWord w g) : RQ w ([g] ++ ex) s1 A1 n1 c1 s2 A2 n2 c2 q := ⟨h.num.avoid hg, h.den.avoid hg⟩
theorem noWordRat {w : World} {g : Nat} {s1 : Bool} {A1 : Option Addr} {n1 c1 : Nat} {s2 : Bool} {A2 : Option Addr} {n2 c2 : Nat} {t : TypeId} (h : w.heap[g]? = some (.cells #[.bool s1, .slice A1 n1 c1, .bool s2, .slice A2 n2 c2] t (0, 0))) : NoWord w g := NoWord.of h (by
  intro u hu x
  simp only [List.mem_cons, List.not_mem_nil, or_false] at hu
  rcases hu with rfl | rfl | rfl | rfl <;> simp)
/-- A new block's cells. -/
theorem cell_new (w : World) (t : TypeId) (vs : List Value) (b : Nat) (hb : b = w.heap.size) : ∀ j u, vs[j]? = some u → (w.alloc (.cells vs.toArray t)).cell? ⟨b, j, none⟩ = some u := by
  subst hb
  intro j u hu
  rw [World.cell?_alloc_new]
  simpa using hu
/-- A call that returns a polynomial and a number of an error. -/
def RetPE (w : World) (ex : List Nat) (p : List (Rat × List Int)) (z : Int) (e : Ending) (w' : World) : Prop :=
  ∃ A n c X D, e = .returned (.tuple #[.slice A n c, .int .i64 z]) ∧ w' = w.more X D ∧ RP (w.more X D) ex A n c p
theorem RetPE.mk {w w' : World} {ex : List Nat} {p : List (Rat × List Int)} {z : Int} {A : Option Addr} {n c : Nat} {e : Ending} (he : e = .returned (.tuple #[.slice A n c, .int .i64 z])) (hb : Below w.heap.size w w') (hr : RP w' ex A n c p) : RetPE w ex p z e w' := by
  obtain ⟨X, D, rfl⟩ := World.more_of_below hb
  exact ⟨A, n, c, X, D, he, rfl, hr⟩

theorem timesP_take {c : Rat} {m : List Int} {p : List (Rat × List Int)} (hc : c ≠ 0) {k : Nat} (hk : k < p.length) :
    (timesP c m p).take (k + 1) = (timesP c m p).take k ++ [(c * p[k].1, addE m p[k].2)] := by
  unfold timesP
  rw [if_neg hc, List.take_succ_eq_append_getElem (by simpa using hk)]; simp
theorem timesP_all {c : Rat} {m : List Int} {p : List (Rat × List Int)} {k : Nat} (hk : p.length ≤ k) : (timesP c m p).take k = timesP c m p := by
  apply List.take_of_length_le
  unfold timesP
  split
  · simp
  · simpa using hk
theorem timesP_len {c : Rat} {m : List Int} {p : List (Rat × List Int)} (hc : c ≠ 0) : (timesP c m p).length = p.length := by
  unfold timesP
  rw [if_neg hc]; simp
/-- The exponents of a product are in their range. -/
def MulOk (m : List Int) (p : List (Rat × List Int)) : Prop := ∀ t ∈ p, Exps (addE m t.2)

end Go.Proofs.YthhdleppkggepaaGreat
