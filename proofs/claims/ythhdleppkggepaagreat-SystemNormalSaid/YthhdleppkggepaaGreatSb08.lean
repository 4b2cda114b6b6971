/-
  The walks of package rational: whole numbers, signs, validity, quotients.
-/
import Derived.Test.YthhdleppkggepaaGreatSb06
import Derived.Test.YthhdleppkggepaaGreatSb07

set_option linter.unusedSimpArgs false
set_option linter.unusedVariables false
set_option linter.unusedSectionVars false

namespace Go.Proofs.YthhdleppkggepaaGreat
open Go.RowKit Go.Deep
set_option maxRecDepth 100000

set_option maxHeartbeats 400000 in
theorem ratof_ok (w : World) (ex : List Nat) (s : Bool) (A : Option Addr) (n c : Nat) (z : Int) (hx : RI w ex s A n c z) (hex : ∀ b ∈ ex, b < w.heap.size) :
    Calls Tryz.prog 93 #[.agg #[.bool s, .slice A n c]] w (RetQ w ex (z : Rat)) := by
  go_enter Tryz.func93, Tryz.ntmps93
  go_wp2_with fail
  go_region_held3 (fun w' => w'.cell? ⟨w.heap.size, 0, none⟩ = some (.bool s) ∧ w'.cell? ⟨w.heap.size, 1, none⟩ = some (.slice A n c) ∧ w'.cell? ⟨w.heap.size + 1, 0, none⟩ = some (World.got w' (w.heap.size + 1) (0)) ∧ w'.cell? ⟨w.heap.size + 1, 1, none⟩ = some (World.got w' (w.heap.size + 1) (1)) ∧ w'.cell? ⟨w.heap.size + 1, 2, none⟩ = some (World.got w' (w.heap.size + 1) (2)) ∧ w'.cell? ⟨w.heap.size + 1, 3, none⟩ = some (World.got w' (w.heap.size + 1) (3)) ∧ w'.frozen? ⟨w.heap.size + 1, 0, none⟩ = false ∧ w'.frozen? ⟨w.heap.size + 1, 1, none⟩ = false ∧ w'.frozen? ⟨w.heap.size + 1, 2, none⟩ = false ∧ w'.frozen? ⟨w.heap.size + 1, 3, none⟩ = false)
    ((repeat' apply And.intro) <;> first | (simp [*, go_sem, ↓IntWalk.iteOmega]; done) | (refine got_of ?_; simp [*, go_sem, ↓IntWalk.iteOmega]; done))
    (first | (go_at_call 94; refine (of_ok _ ([w.heap.size + 1] ++ ex) 1 (by decide) (by decide) (hexs hex (by first | (simp; done) | (simp; omega) | omega) (by first | (simp; done) | (simp; omega) | omega))).mono ?_; rintro e w' ⟨s2, A2, m2, c2, X2, D2, rfl, rfl, h2⟩))
  go_wp2_with fail
  refine bodyPost_ret (v := .agg #[.bool s, .slice A n c, .bool s2, .slice A2 m2 c2]) (by simp [results, Tryz.results93, go_sem, ↓IntWalk.iteOmega]) rfl (RetQ.mk rfl (by repeat first | with_reducible exact .refl .. | with_reducible assumption | refine .s ?_ ?_ | refine .m ?_ ?_ | refine .l ?_ ?_ | refine .d ?_ | refine .e ?_ | (simp <;> omega) | omega) ?_ ?_)
  · rw [Rat.num_intCast]; exact hx.mono (Kr.of_below (by repeat first | with_reducible exact .refl .. | with_reducible assumption | refine .s ?_ ?_ | refine .m ?_ ?_ | refine .l ?_ ?_ | refine .d ?_ | refine .e ?_ | (simp <;> omega) | omega) ex)
  · rw [Rat.den_intCast]; exact h2.mono (Kr.down (by repeat (first | (with_reducible exact Kr.refl _ _) | (with_reducible assumption) | refine Kr.setCell ?_ _ (by simp) | refine Kr.more ?_ _ _ | refine Kr.alloc_ ?_ _ | refine Kr.drew ?_ | refine Kr.drewN ?_ _)) (by first | (intro b hb; simp [hb]; done) | (intro b hb; exact hb) | (intro b hb; simp at hb ⊢; grind)))

set_option maxHeartbeats 400000 in
theorem whole_ok (w : World) (ex : List Nat) (z : Int) (hz1 : -9223372036854775808 ≤ z) (hz2 : z ≤ 9223372036854775807) (hex : ∀ b ∈ ex, b < w.heap.size) :
    Calls Tryz.prog 48 #[.int .i64 z] w (RetQ w ex (z : Rat)) := by
  go_enter Tryz.func48, Tryz.ntmps48
  go_wp2_with fail
  refine (of_ok _ ([w.heap.size] ++ ex) z hz1 hz2 (hexs hex (by first | (simp; done) | (simp; omega) | omega) (by first | (simp; done) | (simp; omega) | omega))).mono ?_; rintro e w' ⟨s2, A2, m2, c2, X2, D2, rfl, rfl, h2⟩
  go_wp2_with fail
  refine (ratof_ok _ ([w.heap.size] ++ ex) _ _ _ _ _ h2 (hexs hex (by first | (simp; done) | (simp; omega) | omega) (by first | (simp; done) | (simp; omega) | omega))).mono ?_; rintro e w' ⟨s1, A1, n1, c1, s2, A2, n2, c2, X3, D3, rfl, rfl, h3⟩
  go_wp2_with fail
  refine bodyPost_ret (v := .agg #[.bool s1, .slice A1 n1 c1, .bool s2, .slice A2 n2 c2]) (by simp [results, Tryz.results48, go_sem, ↓IntWalk.iteOmega]) rfl (RetQ.mk rfl (by repeat first | with_reducible exact .refl .. | with_reducible assumption | refine .s ?_ ?_ | refine .m ?_ ?_ | refine .l ?_ ?_ | refine .d ?_ | refine .e ?_ | (simp <;> omega) | omega) ?_ ?_)
  · exact h3.num.mono (Kr.down (by repeat (first | (with_reducible exact Kr.refl _ _) | (with_reducible assumption) | refine Kr.setCell ?_ _ (by simp) | refine Kr.more ?_ _ _ | refine Kr.alloc_ ?_ _ | refine Kr.drew ?_ | refine Kr.drewN ?_ _)) (by first | (intro b hb; simp [hb]; done) | (intro b hb; exact hb) | (intro b hb; simp at hb ⊢; grind)))
  · exact h3.den.mono (Kr.down (by repeat (first | (with_reducible exact Kr.refl _ _) | (with_reducible assumption) | refine Kr.setCell ?_ _ (by simp) | refine Kr.more ?_ _ _ | refine Kr.alloc_ ?_ _ | refine Kr.drew ?_ | refine Kr.drewN ?_ _)) (by first | (intro b hb; simp [hb]; done) | (intro b hb; exact hb) | (intro b hb; simp at hb ⊢; grind)))

set_option maxHeartbeats 400000 in
theorem ratsign_ok (w : World) (ex : List Nat) (s1 : Bool) (A1 : Option Addr) (n1 c1 : Nat) (s2 : Bool) (A2 : Option Addr) (n2 c2 : Nat) (q : Rat) (hx : RQ w ex s1 A1 n1 c1 s2 A2 n2 c2 q) :
    Calls Tryz.prog 92 #[.agg #[.bool s1, .slice A1 n1 c1, .bool s2, .slice A2 n2 c2]] w (RetV w (.int .i64 q.num.sign)) := by
  go_enter Tryz.func92, Tryz.ntmps92
  go_wp2_with fail
  refine (sign_ok _ _ _ _ _ _ _ (hx.num.mono (Kr.fresh (l := []) (by repeat first | with_reducible exact .refl .. | with_reducible assumption | refine .s ?_ ?_ | refine .m ?_ ?_ | refine .l ?_ ?_ | refine .d ?_ | refine .e ?_ | (simp <;> omega) | omega) (by simp)))).mono ?_; rintro e w' ⟨X, D, rfl, rfl⟩
  go_wp2_with fail
  go_ret
  exact RetV.mk rfl (by repeat first | with_reducible exact .refl .. | with_reducible assumption | refine .s ?_ ?_ | refine .m ?_ ?_ | refine .l ?_ ?_ | refine .d ?_ | refine .e ?_ | (simp <;> omega) | omega)

theorem gcd_one (a : Rat) : Int.gcd a.num (a.den : Int) = 1 := a.reduced
theorem den_ne (a : Rat) : (a.den : Int) ≠ 0 := by have := a.den_nz; omega
theorem den_pos_ (a : Rat) : (0 : Int) < (a.den : Int) := by have := a.den_nz; omega

set_option maxHeartbeats 1000000 in
theorem ratvalid_ok (w : World) (ex : List Nat) (s1 : Bool) (A1 : Option Addr) (n1 c1 : Nat) (s2 : Bool) (A2 : Option Addr) (n2 c2 : Nat) (q : Rat) (hx : RQ w ex s1 A1 n1 c1 s2 A2 n2 c2 q)
    (hw : Wee q.den) (hn1 : n1 ≤ 1000000) (hn2 : n2 ≤ 1000000) :
    Calls Tryz.prog 129 #[.agg #[.bool s1, .slice A1 n1 c1, .bool s2, .slice A2 n2 c2]] w (RetV w (.bool true)) := by
  have hsg : (q.den : Int).sign = 1 := Int.sign_eq_one_of_pos (den_pos_ q)
  have hw' : Wee (q.den : Int).natAbs := by rw [Int.natAbs_natCast]; exact hw
  go_enter Tryz.func129, Tryz.ntmps129
  go_wp2_with fail
  refine (ivalid_ok _ [] _ _ _ _ _ (hx.num.mono ((Kr.of_below (by repeat first | with_reducible exact .refl .. | with_reducible assumption | refine .s ?_ ?_ | refine .m ?_ ?_ | refine .l ?_ ?_ | refine .d ?_ | refine .e ?_ | (simp <;> omega) | omega) ex).sub (by simp))) (by omega)).mono ?_; rintro e w' ⟨X, D, rfl, rfl⟩
  go_wp2_with fail
  refine (ivalid_ok _ [] _ _ _ _ _ (hx.den.mono ((Kr.of_below (by repeat first | with_reducible exact .refl .. | with_reducible assumption | refine .s ?_ ?_ | refine .m ?_ ?_ | refine .l ?_ ?_ | refine .d ?_ | refine .e ?_ | (simp <;> omega) | omega) ex).sub (by simp))) (by omega)).mono ?_; rintro e w' ⟨X2, D2, rfl, rfl⟩
  go_wp2_with fail
  refine (sign_ok _ [] _ _ _ _ _ (hx.den.mono ((Kr.of_below (by repeat first | with_reducible exact .refl .. | with_reducible assumption | refine .s ?_ ?_ | refine .m ?_ ?_ | refine .l ?_ ?_ | refine .d ?_ | refine .e ?_ | (simp <;> omega) | omega) ex).sub (by simp)))).mono ?_; rintro e w' ⟨X3, D3, rfl, rfl⟩
  rw [hsg]
  go_wp2_with fail
  refine (gcd_ok _ [] _ _ _ _ _ _ _ _ _ _ (hx.num.mono ((Kr.of_below (by repeat first | with_reducible exact .refl .. | with_reducible assumption | refine .s ?_ ?_ | refine .m ?_ ?_ | refine .l ?_ ?_ | refine .d ?_ | refine .e ?_ | (simp <;> omega) | omega) ex).sub (by simp))) (hx.den.mono ((Kr.of_below (by repeat first | with_reducible exact .refl .. | with_reducible assumption | refine .s ?_ ?_ | refine .m ?_ ?_ | refine .l ?_ ?_ | refine .d ?_ | refine .e ?_ | (simp <;> omega) | omega) ex).sub (by simp))) hw' (by omega) (by omega) (by simp)).mono ?_; rintro e w' ⟨s3, A3, n3, c3, X4, D4, rfl, rfl, hg⟩
  rw [gcd_one] at hg
  have hgl : n3 ≤ 10 := by rw [hg.len]; decide
  go_wp2_with fail
  refine (of_ok _ [] 1 (by decide) (by decide) (by simp)).mono ?_; rintro e w' ⟨s4, A4, n4, c4, X5, D5, rfl, rfl, ho⟩
  have hol : n4 ≤ 10 := by rw [ho.len]; decide
  go_wp2_with fail
  refine (icmp_ok _ [] _ _ _ _ _ _ _ _ _ _ (hg.mono (by repeat (first | (with_reducible exact Kr.refl _ _) | (with_reducible assumption) | refine Kr.setCell ?_ _ (by simp) | refine Kr.more ?_ _ _ | refine Kr.alloc_ ?_ _ | refine Kr.drew ?_ | refine Kr.drewN ?_ _))) ho (by omega) (by omega)).mono ?_; rintro e w' ⟨X6, D6, rfl, rfl⟩
  rw [show cmpZ ((1 : Nat) : Int) 1 = 0 from rfl]
  go_wp2_with fail
  go_ret
  exact RetV.mk rfl (by repeat first | with_reducible exact .refl .. | with_reducible assumption | refine .s ?_ ?_ | refine .m ?_ ?_ | refine .l ?_ ?_ | refine .d ?_ | refine .e ?_ | (simp <;> omega) | omega)

/-- A rational number and an error's number. -/
def RetQE (w : World) (ex : List Nat) (q : Rat) (n : Int) (e : Ending) (w' : World) : Prop :=
  ∃ s1 A1 n1 c1 s2 A2 n2 c2 X D, e = .returned (.tuple #[.agg #[.bool s1, .slice A1 n1 c1, .bool s2, .slice A2 n2 c2], .int .i64 n]) ∧ w' = w.more X D ∧ RQ (w.more X D) ex s1 A1 n1 c1 s2 A2 n2 c2 q
theorem RetQE.mk {w w' : World} {ex : List Nat} {q : Rat} {n : Int} {s1 : Bool} {A1 : Option Addr} {n1 c1 : Nat} {s2 : Bool} {A2 : Option Addr} {n2 c2 : Nat} {e : Ending}
    (he : e = .returned (.tuple #[.agg #[.bool s1, .slice A1 n1 c1, .bool s2, .slice A2 n2 c2], .int .i64 n])) (hb : Below w.heap.size w w') (hr : RI w' ex s1 A1 n1 c1 q.num) (hr2 : RI w' ex s2 A2 n2 c2 (q.den : Int)) : RetQE w ex q n e w' := by
  obtain ⟨X, D, rfl⟩ := World.more_of_below hb
  exact ⟨s1, A1, n1, c1, s2, A2, n2, c2, X, D, he, rfl, hr, hr2⟩

set_option maxHeartbeats 1000000 in
theorem ratnew_ok (w : World) (ex : List Nat) (s1 : Bool) (A1 : Option Addr) (n1 c1 : Nat) (a : Int) (s2 : Bool) (A2 : Option Addr) (n2 c2 : Nat) (d : Int)
    (hx : RI w ex s1 A1 n1 c1 a) (hy : RI w ex s2 A2 n2 c2 d) (hd : d ≠ 0) (hw : Wee d.natAbs) (hn1 : n1 ≤ 1000000) (hn2 : n2 ≤ 1000000) (hex : ∀ b ∈ ex, b < w.heap.size) :
    Calls Tryz.prog 140 #[.agg #[.bool s1, .slice A1 n1 c1], .agg #[.bool s2, .slice A2 n2 c2]] w (RetQE w ex (Rat.divInt a d) 0) := by
  have hsg : (d.sign == 0) = false := by simp; omega
  have HD := Lib.hid hd
  clear hd
  go_enter Tryz.func140, Tryz.ntmps140
  go_wp2_with fail
  refine (sign_ok _ _ _ _ _ _ _ (hy.mono (Kr.fresh (l := []) (by repeat first | with_reducible exact .refl .. | with_reducible assumption | refine .s ?_ ?_ | refine .m ?_ ?_ | refine .l ?_ ?_ | refine .d ?_ | refine .e ?_ | (simp <;> omega) | omega) (by simp)))).mono ?_; rintro e w' ⟨X, D, rfl, rfl⟩
  go_wp2_with fail
  refine (lowest_ok _ ([w.heap.size + 2] ++ ex) _ _ _ _ _ _ _ _ _ _ (hx.mono (Kr.fresh (l := [w.heap.size + 2]) (by repeat first | with_reducible exact .refl .. | with_reducible assumption | refine .s ?_ ?_ | refine .m ?_ ?_ | refine .l ?_ ?_ | refine .d ?_ | refine .e ?_ | (simp <;> omega) | omega) (by first | (simp; done) | (simp; omega) | omega))) (hy.mono (Kr.fresh (l := [w.heap.size + 2]) (by repeat first | with_reducible exact .refl .. | with_reducible assumption | refine .s ?_ ?_ | refine .m ?_ ?_ | refine .l ?_ ?_ | refine .d ?_ | refine .e ?_ | (simp <;> omega) | omega) (by first | (simp; done) | (simp; omega) | omega))) HD.out hw (by omega) (by omega) (hexs hex (by first | (simp; done) | (simp; omega) | omega) (by first | (simp; done) | (simp; omega) | omega))).mono ?_; rintro e w' ⟨s1, A1, n1, c1, s2, A2, n2, c2, X3, D3, rfl, rfl, h3⟩
  go_wp2_with fail
  refine bodyPost_ret (v := .tuple #[.agg #[.bool s1, .slice A1 n1 c1, .bool s2, .slice A2 n2 c2], .int .i64 0]) (by simp [results, Tryz.results140, go_sem, ↓IntWalk.iteOmega]) rfl (RetQE.mk rfl (by repeat first | with_reducible exact .refl .. | with_reducible assumption | refine .s ?_ ?_ | refine .m ?_ ?_ | refine .l ?_ ?_ | refine .d ?_ | refine .e ?_ | (simp <;> omega) | omega) ?_ ?_)
  · exact h3.num.mono (Kr.down (by repeat (first | (with_reducible exact Kr.refl _ _) | (with_reducible assumption) | refine Kr.setCell ?_ _ (by simp) | refine Kr.more ?_ _ _ | refine Kr.alloc_ ?_ _ | refine Kr.drew ?_ | refine Kr.drewN ?_ _)) (by first | (intro b hb; simp [hb]; done) | (intro b hb; exact hb) | (intro b hb; simp at hb ⊢; grind)))
  · exact h3.den.mono (Kr.down (by repeat (first | (with_reducible exact Kr.refl _ _) | (with_reducible assumption) | refine Kr.setCell ?_ _ (by simp) | refine Kr.more ?_ _ _ | refine Kr.alloc_ ?_ _ | refine Kr.drew ?_ | refine Kr.drewN ?_ _)) (by first | (intro b hb; simp [hb]; done) | (intro b hb; exact hb) | (intro b hb; simp at hb ⊢; grind)))

end Go.Proofs.YthhdleppkggepaaGreat

/-
  The walks of the reference of package integer: words.
-/
namespace Go.Proofs.YthhdleppkggepaaGreat
open Go.RowKit Go.Deep
set_option maxRecDepth 100000

theorem makeU32 (k : Int) (n : Nat) (hk : k = (n : Int)) (hn : n ≤ 10000000000) (w : World) :
    (Instr.makeSlice 55 (.int .i64 k) (.int .i64 k)).run Tryz.prog w = .ok (.slice (some ⟨w.heap.size, 0, none⟩) n n) (w.alloc (.cells (madeCells #[.int .u32 0] n) 192)) := by
  subst hk
  exact run_make_row' (P := Tryz.prog) 55 192 (.int .u32 0) 4 Tryz.underlying55 infoU32 rfl .i64 .i64 n (by omega) (by omega) w

set_option maxHeartbeats 400000 in
theorem r1trim_ok (w : World) (ex : List Nat) (A : Option Addr) (n c : Nat) (ws : List Nat) (h : RW w ex A n c ws) (hn : n ≤ 1000000000) :
    Calls Tryz.prog 161 #[.slice A n c] w fun e w' => ∃ m, e = .returned (.slice A m c) ∧ w' = w ∧ RW w ex A m c (digits (val ws)) := by
  have hlen := h.len
  have HL := Lib.hid hlen; clear hlen
  go_enter Tryz.func161, Tryz.ntmps161
  go_wp2
  go_loop [3] (fun i => ∃ k : Nat, k ≤ n ∧ i = .int .i64 k ∧ ∀ j, k ≤ j → (hj : j < ws.length) → ws[j] = 0) (fun i => (intOf i).toNat)
  case atStart => exact ⟨n, Nat.le_refl _, rfl, fun j h1 h2 => absurd h2 (by have := HL.out; omega)⟩
  case round =>
    obtain ⟨k, hk, rfl, hz⟩ := hrel
    have HZ := Lib.hid hz; clear hz
    have h : RW w ex A n c ws := h
    have hcap : n ≤ c := h.cap
    by_cases h0 : 0 < k
    · obtain ⟨b, o, rfl, hb, hc⟩ := h.at_ (by omega)
      have hk1 : k - 1 < ws.length := by have := HL.out; omega
      have hcell : w.cell? ⟨b, o + (k - 1), none⟩ = some (.int .u32 (ws[k - 1] : Int)) := hc _ hk1
      have HC := Lib.hid hc; clear hc
      by_cases hz : ws[k - 1] = 0
      · have hz' : (((ws[k - 1] : Nat) : Int) == 0) = true := by simp [hz]
        have HZ0 := Lib.hid hz; clear hz
        go_wp2
        go_round
        case rel =>
          refine ⟨k - 1, by omega, by go_num, fun j h1 h2 => ?_⟩
          by_cases hj : j = k - 1
          · subst hj; exact HZ0.out
          · exact HZ.out j (by omega) h2
        case measure => simp [intOf]; omega
      · have hz' : (((ws[k - 1] : Nat) : Int) == 0) = false := by simp; omega
        have HZ0 := Lib.hid hz; clear hz
        go_wp2
        go_ret
        refine ⟨k, rfl, rfl, ?_⟩
        rw [digits_take h.wd (by have := HL.out; omega) HZ.out (.inr ⟨hk1, HZ0.out⟩)]
        have := h.take hk
        exact ⟨this.len, by omega, this.row, this.wd⟩
    · obtain rfl : k = 0 := by omega
      go_wp2
      go_ret
      refine ⟨0, rfl, rfl, ?_⟩
      rw [digits_take h.wd (by omega) HZ.out (.inl rfl)]
      have := h.take (m := 0) (by omega)
      exact ⟨this.len, by omega, this.row, this.wd⟩

set_option maxHeartbeats 400000 in
theorem r1word_ok (w : World) (ex : List Nat) (A : Option Addr) (n c : Nat) (ws : List Nat) (h : RW w ex A n c ws) (i : Int) (h0 : 0 ≤ i) :
    Calls Tryz.prog 162 #[.slice A n c, .int .i64 i] w fun e w' => e = .returned (.int .u64 ((ws.getD i.toNat 0 : Nat) : Int)) ∧ w' = w := by
  obtain ⟨k, rfl⟩ := Int.eq_ofNat_of_zero_le h0
  rw [Int.toNat_natCast]
  have hlen := h.len
  by_cases hk : k < n
  · obtain ⟨b, o, rfl, hb, hc⟩ := h.at_ (by omega)
    have hkl : k < ws.length := by omega
    have hcell := hc k hkl
    have hwl : ws[k] < 4294967296 := h.wd _ (List.getElem_mem hkl)
    have HF : Hid (ws.getD k 0 = ws[k]) := by rw [List.getD_eq_getElem?_getD, List.getElem?_eq_getElem hkl]; rfl
    have HL := Lib.hid hlen; clear hlen hc
    go_enter Tryz.func162, Tryz.ntmps162
    go_wp2
    go_ret
    exact ⟨by rw [HF.out]; rfl, rfl⟩
  · have HF : Hid (ws.getD k 0 = 0) := by rw [List.getD_eq_getElem?_getD, List.getElem?_eq_none (by omega)]; rfl
    have HL := Lib.hid hlen; clear hlen
    go_enter Tryz.func162, Tryz.ntmps162
    go_wp2
    go_ret
    exact ⟨by rw [HF.out]; rfl, rfl⟩

theorem add_end_ {p v a b cy : Nat} (h : v + p * 4294967296 * cy = a + b) (h3 : a < p) (h4 : b < p) : v = a + b := by
  rcases Nat.eq_zero_or_pos cy with h0 | h0
  · rw [h0, Nat.mul_zero, Nat.add_zero] at h; exact h
  · have h8 := Nat.le_mul_of_pos_right (p * 4294967296) h0
    generalize p * 4294967296 * cy = P at *
    omega
theorem add_end {os xs ys : List Nat} {n cy : Nat} (hx : Wd xs) (hy : Wd ys) (hxl : xs.length ≤ n) (hyl : ys.length ≤ n) (hl : os.length = n + 1)
    (h : val (os.take (n + 1)) + 4294967296 ^ (n + 1) * cy = val (xs.take (n + 1)) + val (ys.take (n + 1))) : val os = val xs + val ys := by
  rw [List.take_of_length_le (l := xs) (by omega), List.take_of_length_le (l := ys) (by omega), List.take_of_length_le (l := os) (by omega)] at h
  have h3 := val_lt hx
  have h4 := val_lt hy
  have h5 : 4294967296 ^ xs.length ≤ 4294967296 ^ n := Nat.pow_le_pow_right (by decide) hxl
  have h6 : 4294967296 ^ ys.length ≤ 4294967296 ^ n := Nat.pow_le_pow_right (by decide) hyl
  rw [Nat.pow_succ] at h
  exact add_end_ h (Nat.lt_of_lt_of_le h3 h5) (Nat.lt_of_lt_of_le h4 h6)

set_option maxHeartbeats 1000000 in
theorem r1added_ok (w : World) (ex : List Nat) (A1 : Option Addr) (n1 c1 : Nat) (xs : List Nat) (A2 : Option Addr) (n2 c2 : Nat) (ys : List Nat)
    (hx : RW w ex A1 n1 c1 xs) (hy : RW w ex A2 n2 c2 ys) (hn1 : n1 ≤ 100000000) (hn2 : n2 ≤ 100000000) (hex : ∀ b ∈ ex, b < w.heap.size) :
    Calls Tryz.prog 113 #[.slice A1 n1 c1, .slice A2 n2 c2] w (RetW w ex (digits (val xs + val ys))) := by
  have HX := Lib.hid hx.len
  have HY := Lib.hid hy.len
  have HEX := Lib.hid hex
  clear hex
  obtain ⟨n, hn⟩ : ∃ n : Nat, max n1 n2 = n := ⟨_, rfl⟩
  have hm1 : n1 ≤ n := by omega
  have hm2 : n2 ≤ n := by omega
  have hnn : n ≤ 100000000 := by omega
  have hcase : (n1 < n2 ∧ (n2 : Int) = (n : Int)) ∨ (¬ n1 < n2 ∧ (n1 : Int) = (n : Int)) := by omega
  clear hn
  have hmk := makeU32 ((n : Int) + 1) (n + 1) (by omega) (by omega)
  rcases hcase with ⟨hl0, hni⟩ | ⟨hl0, hni⟩
  all_goals
    go_enter Tryz.func113, Tryz.ntmps113
    go_wp2_with fail
    go_loopw [7, 8] (fun c i wr => ∃ (j cy : Nat) (os : List Nat), j ≤ n + 1 ∧ i = .int .i64 j ∧ c = .int .u64 cy ∧ cy ≤ 1 ∧ Buf 192 wr w.heap.size os ∧ Hid (os.length = n + 1) ∧ Wd os ∧
        Hid (val (os.take j) + 4294967296 ^ j * cy = val (xs.take j) + val (ys.take j)) ∧ Below w.heap.size w wr) (fun _ i _ => n + 1 - (intOf i).toNat)
    case atStart =>
      exact ⟨0, 0, _, Nat.zero_le _, rfl, rfl, by omega, Buf.new _ _ _, List.length_replicate, wd_replicate _, rfl, (Below.refl _ _).alloc (Nat.le_refl _) _⟩
    case round =>
      clear hmk
      obtain ⟨j, cy, os, hj, rfl, rfl, hcy, hbuf, HO, hwd, HV, hb⟩ := hrel
      have hxw := hx.mono (Kr.of_below hb ex)
      have hyw := hy.mono (Kr.of_below hb ex)
      have hgx := getD_lt hx.wd j
      have hgy := getD_lt hy.wd j
      by_cases hlt : j < n + 1
      · have hjo : j < os.length := by have := HO.out; omega
        have hcell := hbuf.cell hjo
        have hfroz := hbuf.frozen j
        go_wp2_with fail
        refine (r1word_ok wr ex _ _ _ xs hxw _ (by omega)).mono ?_; rintro e w1 ⟨rfl, rfl⟩
        rw [Int.toNat_natCast]
        generalize hX : xs.getD j 0 = x at *
        have HXj := Lib.hid hX; clear hX
        go_wp2_with fail
        refine (r1word_ok _ ex _ _ _ ys hyw _ (by omega)).mono ?_; rintro e w1 ⟨rfl, rfl⟩
        rw [Int.toNat_natCast]
        generalize hY : ys.getD j 0 = y at *
        have HYj := Lib.hid hY; clear hY
        obtain ⟨s, hs⟩ : ∃ s : Nat, ((x : Int) + y + cy) % 4294967296 = (s : Int) := ⟨(x + y + cy) % 4294967296, by omega⟩
        obtain ⟨q, hq⟩ : ∃ q : Nat, ((x : Int) + y + cy) / 4294967296 = (q : Int) := ⟨(x + y + cy) / 4294967296, by omega⟩
        have hsl : s < 4294967296 := by omega
        have hql : q ≤ 1 := by omega
        have HE : Hid (x + y + cy = s + 4294967296 * q) := by show _ = _; omega
        go_wp2_with fail
        go_roundw
        case rel =>
          refine ⟨j + 1, q, os.set j s, by omega, by go_num, by rw [hq], hql, hbuf.set j s, by simpa using HO, hwd.set j hsl, ?_, hb.setCell (Nat.le_refl _) _⟩
          exact add_step hjo HXj.out HYj.out HV.out HE.out
        case measure => simp [intOf]; omega
      · obtain rfl : j = n + 1 := by omega
        go_wp2_with fail
        have hrw : RW wr ex (some ⟨w.heap.size, 0, none⟩) (n + 1) (n + 1) os :=
          hbuf.rw_ (fun h => absurd (HEX.out _ h) (by omega)) hwd (by have := HO.out; omega) (Nat.le_refl _)
        refine (r1trim_ok _ ex _ _ _ _ hrw (by omega)).mono ?_; rintro e w1 ⟨m, rfl, rfl, hres⟩
        go_wp2_with fail
        go_ret
        have hval : val os = val xs + val ys := add_end hx.wd hy.wd (by have := HX.out; omega) (by have := HY.out; omega) HO.out HV.out
        rw [hval] at hres
        exact RetW.mk rfl hb hres

end Go.Proofs.YthhdleppkggepaaGreat

/-
  The walks of the reference of package integer: differences, products.
-/
namespace Go.Proofs.YthhdleppkggepaaGreat
open Go.RowKit Go.Deep
set_option maxRecDepth 100000

set_option maxHeartbeats 1000000 in
theorem r1taken_ok (w : World) (ex : List Nat) (A1 : Option Addr) (n1 c1 : Nat) (a : Nat) (A2 : Option Addr) (n2 c2 : Nat) (b : Nat)
    (hx : RW w ex A1 n1 c1 (digits a)) (hy : RW w ex A2 n2 c2 (digits b)) (hle : b ≤ a) (hn1 : n1 ≤ 100000000) (hex : ∀ b ∈ ex, b < w.heap.size) :
    Calls Tryz.prog 115 #[.slice A1 n1 c1, .slice A2 n2 c2] w (RetW w ex (digits (a - b))) := by
  have HX := Lib.hid hx.len
  have HY := Lib.hid hy.len
  have hn2 : n2 ≤ n1 := by have h1 := hx.len; have h2 := hy.len; have := length_digits_mono hle; omega
  have HEX := Lib.hid hex
  clear hex
  have hmk := makeU32 (n1 : Int) n1 rfl (by omega)
  go_enter Tryz.func115, Tryz.ntmps115
  go_wp2_with fail
  go_loopw [6, 7] (fun c i wr => ∃ (j cy : Nat) (os : List Nat), j ≤ n1 ∧ i = .int .i64 j ∧ c = .int .u64 cy ∧ cy ≤ 1 ∧ Buf 192 wr w.heap.size os ∧ Hid (os.length = n1) ∧ Wd os ∧
      Hid (val (os.take j) + val ((digits b).take j) = val ((digits a).take j) + 4294967296 ^ j * cy) ∧ Below w.heap.size w wr) (fun _ i _ => n1 - (intOf i).toNat)
  case atStart =>
    exact ⟨0, 0, _, Nat.zero_le _, rfl, rfl, by omega, Buf.new _ _ _, List.length_replicate, wd_replicate _, rfl, (Below.refl _ _).alloc (Nat.le_refl _) _⟩
  case round =>
    clear hmk
    obtain ⟨j, cy, os, hj, rfl, rfl, hcy, hbuf, HO, hwd, HV, hb⟩ := hrel
    have hxw := hx.mono (Kr.of_below hb ex)
    have hyw := hy.mono (Kr.of_below hb ex)
    have hgx := getD_lt hx.wd j
    have hgy := getD_lt hy.wd j
    by_cases hlt : j < n1
    · have hjo : j < os.length := by have := HO.out; omega
      have hjx : j < (digits a).length := by have := HX.out; omega
      have hcell := hbuf.cell hjo
      have hfroz := hbuf.frozen j
      obtain ⟨bx, ox, rfl, hbx, hcx⟩ := hxw.at_ (by omega)
      have hcellx := hcx j hjx
      have hbxl : bx < w.heap.size := hx.lt (by omega)
      have HCX := Lib.hid hcx; clear hcx
      have hGX : Hid ((digits a).getD j 0 = (digits a)[j]) := by
        show _ = _
        rw [List.getD_eq_getElem?_getD, List.getElem?_eq_getElem hjx]; rfl
      obtain ⟨x, hX⟩ : ∃ x : Nat, (digits a)[j] = x := ⟨_, rfl⟩
      have hxl : x < 4294967296 := by rw [← hX]; exact wd_digits a _ (List.getElem_mem hjx)
      rw [hX] at hcellx
      have HXj := Lib.hid hX; clear hX
      obtain ⟨y, hY⟩ : ∃ y : Nat, (digits b).getD j 0 = y := ⟨_, rfl⟩
      rw [hY] at hgy
      have HYj := Lib.hid hY; clear hY
      obtain ⟨s, hs⟩ : ∃ s : Nat, (4294967296 + (x : Int) - y - cy) % 4294967296 = (s : Int) := ⟨((4294967296 + (x : Int) - y - cy) % 4294967296).toNat, by omega⟩
      obtain ⟨q, hq⟩ : ∃ q : Nat, 1 - (4294967296 + (x : Int) - y - cy) / 4294967296 = (q : Int) := ⟨(1 - (4294967296 + (x : Int) - y - cy) / 4294967296).toNat, by omega⟩
      have hsl : s < 4294967296 := by omega
      have hql : q ≤ 1 := by omega
      have HE : Hid (s + y + cy = x + 4294967296 * q) := by show _ = _; omega
      go_wp2_with fail
      go_region_held3 (fun w' => w'.cell? ⟨bx, ox + j, none⟩ = some (.int .u32 x))
        ((repeat' apply And.intro) <;> first | (simp [*, go_sem, ↓IntWalk.iteOmega]; done) | (refine got_of ?_; simp [*, go_sem, ↓IntWalk.iteOmega]; done))
        (first | (go_at_call 162; refine (r1word_ok _ ex _ _ _ (digits b) (by first | exact hyw | exact hyw.mono ((Kr.refl _ _).drew)) _ (by omega)).mono ?_; rintro e w1 ⟨rfl, rfl⟩; rw [Int.toNat_natCast, HYj.out]))
      go_wp2_with fail
      go_roundw
      case rel =>
        refine ⟨j + 1, q, os.set j s, by omega, by go_num, (by first | rfl | rw [hq]), hql, (by first | exact (hbuf.set j s).of rfl | (rw [hs]; exact (hbuf.set j s).of rfl)), by simpa using HO, hwd.set j hsl, ?_, (hb.setCell (Nat.le_refl _) _).drew⟩
        exact sub_step hjo (hGX.out.trans HXj.out) HYj.out HV.out HE.out
      case measure => simp [intOf]; omega
    · obtain rfl : n1 = j := by omega
      go_wp2_with fail
      have hrw : RW wr ex (some ⟨w.heap.size, 0, none⟩) n1 n1 os := hbuf.rw_ (fun h => absurd (HEX.out _ h) (by omega)) hwd (by have := HO.out; omega) (Nat.le_refl _)
      refine (r1trim_ok _ ex _ _ _ _ hrw (by omega)).mono ?_; rintro e w1 ⟨m, rfl, rfl, hres⟩
      go_wp2_with fail
      go_ret
      have hval : val os = a - b := by
        have := sub_end hwd HO.out HX.out.symm (by have := HY.out; omega) HV.out (by rw [val_digits, val_digits]; exact hle)
        rwa [val_digits, val_digits] at this
      rw [hval] at hres
      exact RetW.mk rfl hb hres

set_option maxHeartbeats 2000000 in
theorem r1times_ok (w : World) (ex : List Nat) (A1 : Option Addr) (n1 c1 : Nat) (xs : List Nat) (A2 : Option Addr) (n2 c2 : Nat) (ys : List Nat)
    (hx : RW w ex A1 n1 c1 xs) (hy : RW w ex A2 n2 c2 ys) (hn1 : n1 ≤ 100000000) (hn2 : n2 ≤ 100000000) (hex : ∀ b ∈ ex, b < w.heap.size) :
    Calls Tryz.prog 116 #[.slice A1 n1 c1, .slice A2 n2 c2] w (RetW w ex (digits (val xs * val ys))) := by
  have HX := Lib.hid hx.len
  have HY := Lib.hid hy.len
  have HEX := Lib.hid hex
  clear hex
  have hmk := makeU32 ((n1 : Int) + (n2 : Int)) (n1 + n2) (by omega) (by omega)
  go_enter Tryz.func116, Tryz.ntmps116
  go_wp2_with fail
  go_loopw [6] (fun i wr => ∃ (j : Nat) (os : List Nat), j ≤ n1 ∧ i = .int .i64 j ∧ Buf 192 wr w.heap.size os ∧ Hid (os.length = n1 + n2) ∧ Wd os ∧
      Hid (val (os.take (j + n2)) = val (xs.take j) * val ys) ∧ Below w.heap.size w wr) (fun i _ => n1 - (intOf i).toNat)
  case atStart =>
    refine ⟨0, _, Nat.zero_le _, rfl, Buf.new _ _ _, List.length_replicate, wd_replicate _, ?_, (Below.refl _ _).alloc (Nat.le_refl _) _⟩
    show _ = _
    rw [List.take_replicate, val_replicate_zero]; simp [val]
  case round =>
    clear hmk
    obtain ⟨j, os0, hj, rfl, hbuf0, HO0, hwd0, HV0, hb0⟩ := hrel
    obtain ⟨wo, rfl⟩ : ∃ wo : World, wo = wr := ⟨_, rfl⟩
    have hxw := hx.mono (Kr.of_below hb0 ex)
    by_cases hlt : j < n1
    · have hjx : j < xs.length := by have := HX.out; omega
      obtain ⟨bx, ox, rfl, hbx, hcx⟩ := hxw.at_ (by omega)
      have hcellx := hcx j hjx
      have HCX := Lib.hid hcx; clear hcx
      have hGX : Hid (xs.getD j 0 = xs[j]) := by
        show _ = _
        rw [List.getD_eq_getElem?_getD, List.getElem?_eq_getElem hjx]; rfl
      obtain ⟨a, hA⟩ : ∃ a : Nat, xs[j] = a := ⟨_, rfl⟩
      have hal : a < 4294967296 := by rw [← hA]; exact hx.wd _ (List.getElem_mem hjx)
      rw [hA] at hcellx
      have HAj := Lib.hid hA; clear hA
      go_wp2_with fail
      go_loopw [7, 8] (fun c i wr => ∃ (k cy : Nat) (os : List Nat), k ≤ n2 ∧ i = .int .i64 k ∧ c = .int .u64 cy ∧ cy < 4294967296 ∧ Buf 192 wr w.heap.size os ∧ Hid (os.length = n1 + n2) ∧ Wd os ∧
          Hid (val (os.take (j + k)) + 4294967296 ^ (j + k) * cy = val (os0.take (j + k)) + 4294967296 ^ j * (a * val (ys.take k))) ∧
          Hid (∀ i, j + k ≤ i → os[i]? = os0[i]?) ∧ Below w.heap.size w wr) (fun _ i _ => n2 - (intOf i).toNat)
      case atStart =>
        refine ⟨0, 0, os0, Nat.zero_le _, rfl, rfl, by omega, hbuf0, HO0, hwd0, ?_, fun _ _ => rfl, hb0⟩
        show _ = _
        simp [val]
      case round =>
        obtain ⟨k, cy, os, hk, rfl, rfl, hcy, hbuf, HO, hwd, HV, HSame, hb⟩ := hrel
        have hyw := hy.mono (Kr.of_below hb ex)
        by_cases hlt2 : k < n2
        · have hjo : j + k < os.length := by have := HO.out; omega
          have hky : k < ys.length := by have := HY.out; omega
          have hcell := hbuf.cell hjo
          have hfroz := hbuf.frozen (j + k)
          obtain ⟨o, hO⟩ : ∃ o : Nat, os[j + k] = o := ⟨_, rfl⟩
          have hol : o < 4294967296 := by rw [← hO]; exact hwd _ (List.getElem_mem hjo)
          rw [hO] at hcell
          have HOo := Lib.hid hO; clear hO
          obtain ⟨by_, oy, rfl, hby, hcy_⟩ := hyw.at_ (by omega)
          have hcelly := hcy_ k hky
          have HCY := Lib.hid hcy_; clear hcy_
          have hGY : Hid (ys.getD k 0 = ys[k]) := by
            show _ = _
            rw [List.getD_eq_getElem?_getD, List.getElem?_eq_getElem hky]; rfl
          obtain ⟨y, hY⟩ : ∃ y : Nat, ys[k] = y := ⟨_, rfl⟩
          have hyl : y < 4294967296 := by rw [← hY]; exact hy.wd _ (List.getElem_mem hky)
          rw [hY] at hcelly
          have HYk := Lib.hid hY; clear hY
          obtain ⟨p, hp⟩ : ∃ p : Nat, a * y = p := ⟨_, rfl⟩
          have hpl : p ≤ 18446744065119617025 := by rw [← hp]; exact mul_word hal hyl
          have hpi : (a : Int) * (y : Int) = (p : Int) := by rw [← hp]; rfl
          obtain ⟨s, hs⟩ : ∃ s : Nat, ((p : Int) + o + cy) % 4294967296 = (s : Int) := ⟨(p + o + cy) % 4294967296, by omega⟩
          obtain ⟨q, hq⟩ : ∃ q : Nat, ((p : Int) + o + cy) / 4294967296 = (q : Int) := ⟨(p + o + cy) / 4294967296, by omega⟩
          have hsl : s < 4294967296 := by omega
          have hql : q < 4294967296 := by omega
          have HE : Hid (cy + (a * y + o) = s + 4294967296 * q) := by show _ = _; rw [hp]; omega
          have HP := Lib.hid hp; clear hp
          obtain ⟨bx2, ox2, he2, _, hcx2⟩ := (hx.mono (Kr.of_below hb ex)).at_ (by omega)
          cases he2
          have hcellx2 := hcx2 j hjx
          rw [HAj.out] at hcellx2
          clear hcx2
          go_wp2_with fail
          go_quiet (fail)
          go_wp2_with fail
          go_roundw
          case rel =>
            refine ⟨k + 1, q, os.set (j + k) s, by omega, by go_num, (by first | rfl | rw [hq]), hql, (by first | exact (hbuf.set (j + k) s).of rfl | (rw [hs]; exact (hbuf.set (j + k) s).of rfl)), by simpa using HO, hwd.set _ hsl, ?_, ?_, (by first | exact (hb.setCell (Nat.le_refl _) _).drew | exact (Below.drewN hb _).setCell (Nat.le_refl _) _ | exact hb.drew.setCell (Nat.le_refl _) _)⟩
            · exact mul_step hjo (HO.out.trans HO0.out.symm) (hGY.out.trans HYk.out) HOo.out HSame.out HV.out HE.out
            · intro i hi
              rw [List.getElem?_set_ne (by omega)]
              exact HSame.out i (by omega)
          case measure => simp [intOf]; omega
        · obtain rfl : n2 = k := by omega
          have hjo : j + n2 < os.length := by have := HO.out; omega
          have hcell := hbuf.cell hjo
          have hfroz := hbuf.frozen (j + n2)
          have hcyi : (cy : Int) % 4294967296 = cy := by omega
          go_wp2_with fail
          go_roundw
          case rel =>
            refine ⟨j + 1, os.set (j + n2) cy, by omega, by go_num, hbuf.set (j + n2) cy, by simpa using HO, hwd.set _ hcy, ?_, hb.setCell (Nat.le_refl _) _⟩
            have h1 := HV.out
            rw [List.take_of_length_le (l := ys) (by have := HY.out; omega)] at h1
            exact mul_row hjo (hGX.out.trans HAj.out) HV0.out h1
          case measure => simp [intOf]; omega
    · obtain rfl : n1 = j := by omega
      go_wp2_with fail
      have hrw : RW wo ex (some ⟨w.heap.size, 0, none⟩) (n1 + n2) (n1 + n2) os0 := hbuf0.rw_ (fun h => absurd (HEX.out _ h) (by omega)) hwd0 (by have := HO0.out; omega) (Nat.le_refl _)
      refine (r1trim_ok _ ex _ _ _ _ hrw (by omega)).mono ?_; rintro e w1 ⟨m, rfl, rfl, hres⟩
      go_wp2_with fail
      go_ret
      have hval : val os0 = val xs * val ys := by
        have := HV0.out
        rwa [List.take_of_length_le (l := os0) (by have := HO0.out; omega), List.take_of_length_le (l := xs) (by have := HX.out; omega)] at this
      rw [hval] at hres
      exact RetW.mk rfl hb0 hres


theorem val_two {n a b : Nat} (ha : (n : Int) % 4294967296 = (a : Int)) (hb : (n : Int) / 4294967296 = (b : Int)) : val [a, b] = n := by
  simp only [val]; omega

set_option maxHeartbeats 400000 in
theorem r1words_ok (w : World) (ex : List Nat) (n : Nat) (hn : n < 18446744073709551616) (hex : ∀ b ∈ ex, b < w.heap.size) :
    Calls Tryz.prog 112 #[.int .u64 n] w (RetW w ex (digits n)) := by
  obtain ⟨a, ha⟩ : ∃ a : Nat, (n : Int) % 4294967296 = (a : Int) := ⟨n % 4294967296, by omega⟩
  obtain ⟨b, hb⟩ : ∃ b : Nat, (n : Int) / 4294967296 = (b : Int) := ⟨n / 4294967296, by omega⟩
  have hal : a < 4294967296 := by omega
  have hbl : b < 4294967296 := by omega
  have hbm : (b : Int) % 4294967296 = (b : Int) := by omega
  have HV : Hid (val [a, b] = n) := val_two ha hb
  have hn0 : (0 : Int) ≤ n := by omega
  have hrow : RW (w.alloc (.cells #[.int .u32 a, .int .u32 b] 192)) ex (some ⟨w.heap.size, 0, none⟩) 2 2 [a, b] := by
    refine ⟨rfl, Nat.le_refl _, fun _ => ⟨_, _, rfl, fun h => absurd (hex _ h) (by omega), fun i u hu => ?_⟩, fun x hx => ?_⟩
    · rw [Nat.zero_add, World.cell?_alloc_new]; simpa [u32s] using hu
    · simp at hx; rcases hx with rfl | rfl <;> assumption
  go_enter Tryz.func112, Tryz.ntmps112
  go_wp2_with fail
  refine (r1trim_ok _ _ _ _ _ _ hrow (by omega)).mono ?_; rintro e w1 ⟨m, rfl, rfl, hres⟩
  go_wp2_with fail
  go_ret
  rw [HV.out] at hres
  exact RetW.mk rfl (by repeat first | with_reducible exact .refl .. | with_reducible assumption | refine .s ?_ ?_ | refine .m ?_ ?_ | refine .l ?_ ?_ | refine .d ?_ | refine .e ?_ | (simp <;> omega) | omega) hres

theorem Kr.twin (w : World) (ex : List Nat) (O1 O2 : Obj) : Kr (w.alloc O1) ([w.heap.size] ++ ex) (w.alloc O2) ex :=
  ⟨by simp, fun b _ hx hh => hx (List.mem_append_right _ hh), fun b hb hx => by
    have hne : b ≠ w.heap.size := fun e => hx (by simp [e])
    have hlt : b < w.heap.size := by simp at hb; omega
    rw [Below.heap_alloc _ _ _ hlt, Below.heap_alloc _ _ _ hlt]⟩

set_option maxHeartbeats 400000 in
theorem r1made_ok (w : World) (ex : List Nat) (A : Option Addr) (n c : Nat) (ws : List Nat) (neg : Bool) (hx : RW w ex A n c ws) (hn : n ≤ 1000000000) :
    Calls Tryz.prog 111 #[.bool neg, .slice A n c] w (RetI w ex (if neg then -(val ws : Int) else val ws)) := by
  have h0 := hx.mono (Kr.fresh (l := [w.heap.size]) (w' := w.alloc (.cells #[.bool false, .slice none 0 0] 57)) (by repeat first | with_reducible exact .refl .. | with_reducible assumption | refine .s ?_ ?_ | refine .m ?_ ?_ | refine .l ?_ ?_ | refine .d ?_ | refine .e ?_ | (simp <;> omega) | omega) (by simp))
  cases neg
  · go_enter Tryz.func111, Tryz.ntmps111
    go_wp2_with fail
    refine (r1trim_ok _ _ _ _ _ _ h0 hn).mono ?_; rintro e w1 ⟨m, rfl, rfl, hres⟩
    go_wp2_with fail
    refine bodyPost_ret (v := .agg #[.bool false, .slice A m c]) (by simp [results, Tryz.results111, go_sem, ↓IntWalk.iteOmega]) rfl (RetI.mk rfl (by repeat first | with_reducible exact .refl .. | with_reducible assumption | refine .s ?_ ?_ | refine .m ?_ ?_ | refine .l ?_ ?_ | refine .d ?_ | refine .e ?_ | (simp <;> omega) | omega) ?_)
    refine ⟨by simp, ?_⟩
    simp only [Int.natAbs_natCast, Bool.false_eq_true, if_false]
    exact hres.mono (Kr.twin _ _ _ _)
  · go_enter Tryz.func111, Tryz.ntmps111
    go_wp2_with fail
    refine (r1trim_ok _ _ _ _ _ _ h0 hn).mono ?_; rintro e w1 ⟨m, rfl, rfl, hres⟩
    have HM : Hid (0 < m ↔ 0 < val ws) := by
      have h2 := hres.len
      have h3 : digits (val ws) = [] ↔ val ws = 0 := digits_eq_nil
      rw [← List.length_eq_zero_iff] at h3
      show _ ↔ _
      omega
    by_cases hz : 0 < m
    · go_wp2_with fail
      refine bodyPost_ret (v := .agg #[.bool true, .slice A m c]) (by simp [results, Tryz.results111, go_sem, ↓IntWalk.iteOmega]) rfl (RetI.mk rfl (by repeat first | with_reducible exact .refl .. | with_reducible assumption | refine .s ?_ ?_ | refine .m ?_ ?_ | refine .l ?_ ?_ | refine .d ?_ | refine .e ?_ | (simp <;> omega) | omega) ?_)
      have h4 := HM.out.1 hz
      refine ⟨by simp; omega, ?_⟩
      simp only [if_true, Int.natAbs_neg, Int.natAbs_natCast]
      exact hres.mono (Kr.twin _ _ _ _)
    · go_wp2_with fail
      refine bodyPost_ret (v := .agg #[.bool false, .slice A m c]) (by simp [results, Tryz.results111, go_sem, ↓IntWalk.iteOmega]) rfl (RetI.mk rfl (by repeat first | with_reducible exact .refl .. | with_reducible assumption | refine .s ?_ ?_ | refine .m ?_ ?_ | refine .l ?_ ?_ | refine .d ?_ | refine .e ?_ | (simp <;> omega) | omega) ?_)
      have h4 : val ws = 0 := by have := HM.out; omega
      refine ⟨by simp [h4], ?_⟩
      simp only [if_true, Int.natAbs_neg, Int.natAbs_natCast]
      exact hres.mono (Kr.twin _ _ _ _)

end Go.Proofs.YthhdleppkggepaaGreat

/-
  The walks of the reference of package integer: order, division by one word, greatest common divisors of words.
-/
namespace Go.Proofs.YthhdleppkggepaaGreat
open Go.RowKit Go.Deep
set_option maxRecDepth 100000

theorem cmpN_len_lt {a b : Nat} (h : (digits a).length < (digits b).length) : cmpN a b = -1 := by
  unfold cmpN; rw [if_pos (digits_lt_of_length h)]
theorem cmpN_len_gt {a b : Nat} (h : (digits b).length < (digits a).length) : cmpN a b = 1 := by
  have := digits_lt_of_length h
  unfold cmpN; rw [if_neg (by omega), if_pos this]

set_option maxHeartbeats 1000000 in
theorem r1compared_ok (w : World) (ex : List Nat) (A1 : Option Addr) (n1 c1 : Nat) (a : Nat) (A2 : Option Addr) (n2 c2 : Nat) (b : Nat)
    (hx : RW w ex A1 n1 c1 (digits a)) (hy : RW w ex A2 n2 c2 (digits b)) (hn : n1 ≤ 1000000000) (hn2 : n2 ≤ 1000000000) :
    Calls Tryz.prog 114 #[.slice A1 n1 c1, .slice A2 n2 c2] w fun e w' => e = .returned (.int .i64 (cmpN a b)) ∧ ∃ D, w' = w.drewN D := by
  have hl1 := hx.len
  have hl2 := hy.len
  by_cases hne : n1 = n2
  · subst hne
    have HL : Hid (n1 = (digits a).length ∧ n1 = (digits b).length) := ⟨hl1, hl2⟩
    clear hl1 hl2
    go_enter Tryz.func114, Tryz.ntmps114
    go_wp2_with fail
    go_loopw [5] (fun i wr => ∃ j : Nat, j ≤ n1 ∧ i = .int .i64 ((n1 : Int) - 1 - j) ∧ Hid ((digits a).drop (n1 - j) = (digits b).drop (n1 - j)) ∧ ∃ D, wr = w.drewN D) (fun i _ => ((intOf i) + 1).toNat)
    case atStart =>
      refine ⟨0, Nat.zero_le _, by simp, ?_, 0, rfl⟩
      show _ = _
      obtain ⟨h1, h2⟩ := HL.out
      rw [List.drop_of_length_le (by omega), List.drop_of_length_le (by omega)]
    case round =>
      obtain ⟨j, hj, rfl, HT, D, rfl⟩ := hrel
      by_cases hlt : j < n1
      · obtain ⟨bx, ox, rfl, hbx, hcx⟩ := hx.at_ (by omega)
        obtain ⟨by_, oy, rfl, hby, hcy⟩ := hy.at_ (by omega)
        obtain ⟨K, hK⟩ : ∃ K : Nat, (n1 : Int) - 1 - (j : Int) = (K : Int) := ⟨n1 - 1 - j, by omega⟩
        rw [hK]
        have hKn : K < n1 := by omega
        have hk1 : K < (digits a).length := by have := HL.out; omega
        have hk2 : K < (digits b).length := by have := HL.out; omega
        have hcellx := hcx _ hk1
        have hcelly := hcy _ hk2
        have HX := Lib.hid hcx; clear hcx
        have HY := Lib.hid hcy; clear hcy
        have HT2 : Hid ((digits a).drop (K + 1) = (digits b).drop (K + 1)) := by
          rw [show K + 1 = n1 - j from by omega]; exact HT
        have HKj := Lib.hid hK; clear hK
        obtain ⟨x, hx0⟩ : ∃ x : Nat, (digits a)[K] = x := ⟨_, rfl⟩
        obtain ⟨y, hy0⟩ : ∃ y : Nat, (digits b)[K] = y := ⟨_, rfl⟩
        rw [hx0] at hcellx
        rw [hy0] at hcelly
        have HX0 := Lib.hid hx0; clear hx0
        have HY0 := Lib.hid hy0; clear hy0
        rcases Nat.lt_trichotomy x y with hxy | hxy | hxy
        · go_wp2_with fail
          go_quiet (fail)
          go_wp2_with fail
          go_ret
          refine ⟨?_, (by first | exact ⟨_, rfl⟩ | (simp only [World.drewN_drewN]; exact ⟨_, rfl⟩))⟩
          obtain ⟨h1, h2⟩ := HL.out
          have h3 := HX0.out
          have h4 := HY0.out
          rw [← cmpZ_word (a := a) (b := b) (by omega) hk1 hk2 HT2.out (by omega), h3, h4]
          unfold cmpZ; rw [if_pos (by omega)]; rfl
        · have hq : ((x : Int) == (y : Int)) = true := by simp [hxy]
          go_wp2_with fail
          go_quiet (fail)
          go_wp2_with fail
          go_quiet (fail)
          go_wp2_with fail
          go_roundw
          case rel =>
            refine ⟨j + 1, by omega, (by have := HKj.out; go_num), ?_, (by first | exact ⟨_, rfl⟩ | (simp only [World.drewN_drewN]; exact ⟨_, rfl⟩))⟩
            show _ = _
            have h2 := HT2.out
            have h3 := HX0.out
            have h4 := HY0.out
            have h5 := HKj.out
            rw [show n1 - (j + 1) = K from by omega, List.drop_eq_getElem_cons hk1, List.drop_eq_getElem_cons hk2, h2, h3, h4, hxy]
          case measure => simp [intOf]
        · go_wp2_with fail
          go_quiet (fail)
          go_wp2_with fail
          go_quiet (fail)
          go_wp2_with fail
          go_ret
          refine ⟨?_, (by first | exact ⟨_, rfl⟩ | (simp only [World.drewN_drewN]; exact ⟨_, rfl⟩))⟩
          obtain ⟨h1, h2⟩ := HL.out
          have h3 := HX0.out
          have h4 := HY0.out
          rw [← cmpZ_word (a := a) (b := b) (by omega) hk1 hk2 HT2.out (by omega), h3, h4]
          unfold cmpZ; rw [if_neg (by omega), if_pos (by omega)]; rfl
      · obtain rfl : j = n1 := by omega
        go_wp2
        go_ret
        refine ⟨?_, _, rfl⟩
        have h := HT.out
        rw [Nat.sub_self, List.drop_zero, List.drop_zero] at h
        have hab : a = b := by rw [← val_digits a, ← val_digits b, h]
        subst hab
        simp [cmpN]
  · by_cases hlt : n1 < n2
    · have HC : Hid (cmpN a b = -1) := cmpN_len_lt (by omega)
      clear hl1 hl2
      go_enter Tryz.func114, Tryz.ntmps114
      go_wp2_with fail
      go_ret
      exact ⟨by rw [HC.out]; rfl, 0, rfl⟩
    · have HC : Hid (cmpN a b = 1) := cmpN_len_gt (by omega)
      clear hl1 hl2
      go_enter Tryz.func114, Tryz.ntmps114
      go_wp2_with fail
      go_ret
      exact ⟨by rw [HC.out]; rfl, 0, rfl⟩


end Go.Proofs.YthhdleppkggepaaGreat
