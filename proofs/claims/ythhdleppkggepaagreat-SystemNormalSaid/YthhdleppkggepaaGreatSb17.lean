/-
  The walk of mgcd.Normal: the normal multiple of a polynomial.
-/
import Derived.Shelf.SlSortCmp.Whole1
import Derived.Test.YthhdleppkggepaaGreatProg
import Derived.Test.YthhdleppkggepaaGreatSb11
import Derived.Test.YthhdleppkggepaaGreatSb16

set_option linter.unusedSimpArgs false
set_option linter.unusedVariables false
set_option linter.unusedSectionVars false

namespace Go.Proofs.YthhdleppkggepaaGreat
open Go.RowKit Go.Deep
set_option maxRecDepth 100000

set_option maxHeartbeats 1000000 in
theorem pscaled_ok (w : World) (ex : List Nat) (s3 : Bool) (A3 : Option Addr) (n3 c3 : Nat) (s4 : Bool) (A4 : Option Addr) (n4 c4 : Nat) (q : Rat) (A : Option Addr) (n c : Nat) (p : List (Rat × List Int)) (hcq : RQ w ex s3 A3 n3 c3 s4 A4 n4 c4 q) (hx : RP w ex A n c p) (hp : PExps p)
    (hq0 : Few q) (hty : ∀ t ∈ p, Few t.1 ∧ Wee (q.den * t.1.den)) (hn : n ≤ 1000000000) (hex : ∀ b ∈ ex, b < w.heap.size) :
    Calls Tryz.prog 141 #[.agg #[.bool s3, .slice A3 n3 c3, .bool s4, .slice A4 n4 c4], .slice A n c] w (RetP w ex (timesP q mono0 p)) := by
  have hmul : MulOk mono0 p := by
    intro t ht
    rw [addE_zero (hx.len8 t ht)]; exact hp t ht
  have he0 : Exps [0, 0, 0, 0, 0, 0, 0, 0] := by
    intro k
    match k with
    | 0 | 1 | 2 | 3 | 4 | 5 | 6 | 7 => exact ⟨by decide, by decide⟩
    | k + 8 => simp
  go_enter Tryz.func141, Tryz.ntmps141
  go_wp2_with fail
  refine (ptimes_ok _ ex s3 A3 n3 c3 s4 A4 n4 c4 q 0 0 0 0 0 0 0 0 A n c p (hcq.mono (Kr.of_below (by repeat first | with_reducible exact .refl .. | with_reducible assumption | refine .s ?_ ?_ | refine .m ?_ ?_ | refine .l ?_ ?_ | refine .d ?_ | refine .e ?_ | (simp <;> omega) | omega) ex)) (hx.mono (Kr.of_below (by repeat first | with_reducible exact .refl .. | with_reducible assumption | refine .s ?_ ?_ | refine .m ?_ ?_ | refine .l ?_ ?_ | refine .d ?_ | refine .e ?_ | (simp <;> omega) | omega) ex)) he0 hp hmul hq0 hty hn (fun b hb => by have := hex b hb; simp; omega)).mono ?_; rintro e w1 ⟨A', n', c', X, D, rfl, rfl, hres⟩
  go_wp2_with fail
  go_ret
  exact RetP.mk rfl (by repeat first | with_reducible exact .refl .. | with_reducible assumption | refine .s ?_ ?_ | refine .m ?_ ?_ | refine .l ?_ ?_ | refine .d ?_ | refine .e ?_ | (simp <;> omega) | omega) hres

def numG (p : List (Rat × List Int)) : Int := p.foldl (fun g t => (Int.gcd g t.1.num : Int)) 0
def denL (p : List (Rat × List Int)) : Int := p.foldl (fun d t => d * (t.1.den : Int) / (Int.gcd d (t.1.den : Int) : Int)) 1
/-- The number by which mgcd.Normal multiplies. -/
def normC (p : List (Rat × List Int)) : Rat := Rat.divInt (denL p) (if (p.headD (0, [])).1 < 0 then -(numG p) else numG p)
def normP (p : List (Rat × List Int)) : List (Rat × List Int) := if p = [] then [] else timesP (normC p) mono0 p
theorem numG_succ {p : List (Rat × List Int)} {k : Nat} (hk : k < p.length) : numG (p.take (k + 1)) = (Int.gcd (numG (p.take k)) p[k].1.num : Int) := by
  unfold numG
  rw [List.take_succ_eq_append_getElem hk, List.foldl_append]; rfl
theorem denL_succ {p : List (Rat × List Int)} {k : Nat} (hk : k < p.length) : denL (p.take (k + 1)) = denL (p.take k) * (p[k].1.den : Int) / (Int.gcd (denL (p.take k)) (p[k].1.den : Int) : Int) := by
  unfold denL
  rw [List.take_succ_eq_append_getElem hk, List.foldl_append]; rfl
theorem lcm_step {d e M : Int} (hd : 0 < d) (he : 0 < e) (hM : 0 < M) (h1 : d ∣ M) (h2 : e ∣ M) : 0 < d * e / (Int.gcd d e : Int) ∧ d * e / (Int.gcd d e : Int) ∣ M := by
  obtain ⟨a, rfl⟩ := Int.eq_ofNat_of_zero_le (Int.le_of_lt hd)
  obtain ⟨b, rfl⟩ := Int.eq_ofNat_of_zero_le (Int.le_of_lt he)
  obtain ⟨m, rfl⟩ := Int.eq_ofNat_of_zero_le (Int.le_of_lt hM)
  have e1 : (Int.gcd (a : Int) (b : Int) : Int) = (Nat.gcd a b : Int) := by simp [Int.gcd]
  have e2 : (a : Int) * (b : Int) / (Nat.gcd a b : Int) = ((Nat.lcm a b : Nat) : Int) := by
    rw [Nat.lcm]; norm_cast
  rw [e1, e2]
  refine ⟨?_, ?_⟩
  · have := Nat.lcm_pos (m := a) (n := b) (by omega) (by omega); omega
  · exact Int.natCast_dvd_natCast.2 (Nat.lcm_dvd (Int.natCast_dvd_natCast.1 h1) (Int.natCast_dvd_natCast.1 h2))
theorem denL_bound {p : List (Rat × List Int)} {M : Int} (hM : 0 < M) (h : ∀ t ∈ p, (t.1.den : Int) ∣ M) : ∀ k, k ≤ p.length → 0 < denL (p.take k) ∧ denL (p.take k) ∣ M
  | 0, _ => ⟨by simp [denL], by simp [denL]⟩
  | k + 1, hk => by
    obtain ⟨h1, h2⟩ := denL_bound hM h k (by omega)
    rw [denL_succ (by omega)]
    have hd := p[k].1.den_nz
    exact lcm_step h1 (by omega) hM h2 (h _ (List.getElem_mem _))
theorem numG_bound {p : List (Rat × List Int)} (h : PTy p) (hz : ∀ t ∈ p, t.1 ≠ 0) : ∀ k, k ≤ p.length → 0 ≤ numG (p.take k) ∧ numG (p.take k) < 65536 ∧ (0 < k → 0 < numG (p.take k))
  | 0, _ => by simp [numG]
  | k + 1, hk => by
    rw [numG_succ (by omega)]
    have hn : p[k].1.num ≠ 0 := fun e => hz _ (List.getElem_mem (show k < p.length by omega)) (Rat.num_eq_zero.1 e)
    have h1 := gcd_natAbs_le (a := numG (p.take k)) hn
    have h2 := gcd_ne (a := numG (p.take k)) hn
    have h3 := (h _ (List.getElem_mem (show k < p.length by omega))).1
    refine ⟨by omega, by omega, fun _ => by omega⟩
theorem divInt_bound {a d : Int} (hd : d ≠ 0) : (Rat.divInt a d).num.natAbs ≤ a.natAbs ∧ (Rat.divInt a d).den ≤ d.natAbs := by
  rcases Int.lt_trichotomy d 0 with h | h | h
  · obtain ⟨h1, h2⟩ := lowest_neg (a := a) h
    have e1 : (Rat.divInt a d).num.natAbs ≤ a.natAbs := by
      rw [← h1, Int.ediv_neg, Int.natAbs_neg]; exact Int.natAbs_ediv_le_natAbs _ _
    have e2 : ((Rat.divInt a d).den : Int).natAbs ≤ d.natAbs := by
      rw [← h2, Int.ediv_neg, Int.natAbs_neg]; exact Int.natAbs_ediv_le_natAbs _ _
    exact ⟨e1, by rwa [Int.natAbs_natCast] at e2⟩
  · exact absurd h hd
  · obtain ⟨h1, h2⟩ := lowest_pos (a := a) h
    have e1 : (Rat.divInt a d).num.natAbs ≤ a.natAbs := by
      rw [← h1]; exact Int.natAbs_ediv_le_natAbs _ _
    have e2 : ((Rat.divInt a d).den : Int).natAbs ≤ d.natAbs := by
      rw [← h2]; exact Int.natAbs_ediv_le_natAbs _ _
    exact ⟨e1, by rwa [Int.natAbs_natCast] at e2⟩
theorem RI.n {w : World} {ex : List Nat} {s : Bool} {A : Option Addr} {n c : Nat} {z : Int} (h : RI w ex s A n c z) (hz : z.natAbs < 4294967296) : n ≤ 1 := by rw [h.len]; exact wl_small hz
theorem rat_neg_iff {q : Rat} : q < 0 ↔ q.num < 0 := by
  rw [Rat.lt_iff]; simp

set_option maxHeartbeats 8000000 in
theorem mnormal_ok (w : World) (ex : List Nat) (A : Option Addr) (n c : Nat) (p : List (Rat × List Int)) (hx : RP w ex A n c p) (hp : PExps p) (hty : PTy p) (hz : ∀ t ∈ p, t.1 ≠ 0) (M : Int) (hM : 0 < M) (hM2 : M < 65536) (hdv : ∀ t ∈ p, (t.1.den : Int) ∣ M)
    (hn : n ≤ 1000000000) (hex : ∀ b ∈ ex, b < w.heap.size) :
    Calls Tryz.prog 95 #[.slice A n c] w (RetP w ex (normP p)) := by
  have HL := Lib.hid hx.len
  have hcap := hx.cap
  have HP := Lib.hid hp
  have HT := Lib.hid hty
  have HDB := Lib.hid (denL_bound hM hdv)
  have HNB := Lib.hid (numG_bound hty hz)
  have HM := Lib.hid (show ∀ k, k ≤ p.length → denL (p.take k) < 65536 from fun k hk => Int.lt_of_le_of_lt (Int.le_of_dvd hM (denL_bound hM hdv k hk).2) hM2)
  have HNZ := Lib.hid hz
  clear hp hty hdv hz
  by_cases h0 : n = 0
  · subst h0
    have HE : Hid (normP p = []) := Lib.hid (by
      have : p = [] := List.eq_nil_of_length_eq_zero HL.out.symm
      subst this; rfl)
    go_enter Tryz.func95, Tryz.ntmps95
    go_wp2_with fail
    go_ret
    rw [HE.out]
    exact RetP.mk rfl (by repeat first | with_reducible exact .refl .. | with_reducible assumption | refine .s ?_ ?_ | refine .m ?_ ?_ | refine .l ?_ ?_ | refine .d ?_ | refine .e ?_ | (simp <;> omega) | omega) (RP.nil _ _ _ _)
  · have hn0 : ((n : Int) == 0) = false := by simpa using h0
    go_enter Tryz.func95, Tryz.ntmps95
    go_wp2_with fail
    refine (of_ok _ ex 0 (by decide) (by decide) hex).mono ?_; rintro e w1 ⟨s0, A0, n0, c0, X0, D0, rfl, rfl, hi0⟩
    go_wp2_with fail
    refine (of_ok _ ex 1 (by decide) (by decide) (fun b hb => by have := hex b hb; simp; omega)).mono ?_; rintro e w1 ⟨s1, A1, n1, c1, X1, D1, rfl, rfl, hi1⟩
    go_wp2_with fail
    obtain ⟨g, hg⟩ : ∃ g, g = w.heap.size + X0.size + X1.size := ⟨_, rfl⟩
    refine wp_abs (fun W0 => Below w.heap.size w W0 ∧ g + 1 < W0.heap.size ∧ W0.cell? ⟨g, 0, none⟩ = some (.bool s0) ∧ W0.cell? ⟨g, 1, none⟩ = some (.slice A0 n0 c0) ∧ W0.cell? ⟨g + 1, 0, none⟩ = some (.bool s1) ∧ W0.cell? ⟨g + 1, 1, none⟩ = some (.slice A1 n1 c1) ∧
        W0.frozen? ⟨g, 0, none⟩ = false ∧ W0.frozen? ⟨g, 1, none⟩ = false ∧ W0.frozen? ⟨g + 1, 0, none⟩ = false ∧ W0.frozen? ⟨g + 1, 1, none⟩ = false ∧ RI W0 ex s0 A0 n0 c0 0 ∧ RI W0 ex s1 A1 n1 c1 1)
      ⟨(by repeat first | with_reducible exact .refl .. | with_reducible assumption | refine .s ?_ ?_ | refine .m ?_ ?_ | refine .l ?_ ?_ | refine .d ?_ | refine .e ?_ | (simp <;> omega) | omega), by simp; omega, by simp [hg, go_sem, ↓IntWalk.iteOmega], by simp [hg, go_sem, ↓IntWalk.iteOmega], by simp [hg, go_sem, ↓IntWalk.iteOmega], by simp [hg, go_sem, ↓IntWalk.iteOmega], by simp [hg, go_sem, ↓IntWalk.iteOmega], by simp [hg, go_sem, ↓IntWalk.iteOmega], by simp [hg, go_sem, ↓IntWalk.iteOmega], by simp [hg, go_sem, ↓IntWalk.iteOmega], hi0.keepW (by repeat (first | (with_reducible exact Kw.refl _) | (with_reducible assumption) | refine Kw.setCell ?_ (by intro x; simp [*, go_sem, ↓IntWalk.iteOmega]) | refine Kw.more ?_ _ _ | refine Kw.alloc ?_ _ | refine Kw.drew ?_ | refine Kw.drewN ?_ _)), hi1.keepW (by repeat (first | (with_reducible exact Kw.refl _) | (with_reducible assumption) | refine Kw.setCell ?_ (by intro x; simp [*, go_sem, ↓IntWalk.iteOmega]) | refine Kw.more ?_ _ _ | refine Kw.alloc ?_ _ | refine Kw.drew ?_ | refine Kw.drewN ?_ _))⟩ ?_
    rw [← hg]
    rintro W0 ⟨hb0, hgs, b0, b1, b2, b3, f0, f1, f2, f3, hi0', hi1'⟩
    have hgw : w.heap.size ≤ g := by omega
    clear hi0 hi1 hg
    go_loopw [19] (fun i wr => ∃ (k : Nat) (s3 : Bool) (A3 : Option Addr) (n3 c3 : Nat) (s4 : Bool) (A4 : Option Addr) (n4 c4 : Nat), k ≤ n ∧ i = .int .i64 k ∧ Below w.heap.size w wr ∧ g + 1 < wr.heap.size ∧ wr.cell? ⟨g, 0, none⟩ = some (.bool s3) ∧ wr.cell? ⟨g, 1, none⟩ = some (.slice A3 n3 c3) ∧ wr.cell? ⟨g + 1, 0, none⟩ = some (.bool s4) ∧ wr.cell? ⟨g + 1, 1, none⟩ = some (.slice A4 n4 c4) ∧
        wr.frozen? ⟨g, 0, none⟩ = false ∧ wr.frozen? ⟨g, 1, none⟩ = false ∧ wr.frozen? ⟨g + 1, 0, none⟩ = false ∧ wr.frozen? ⟨g + 1, 1, none⟩ = false ∧ RI wr ex s3 A3 n3 c3 (numG (p.take k)) ∧ RI wr ex s4 A4 n4 c4 (denL (p.take k))) (fun i _ => n - (intOf i).toNat)
    case atStart => exact ⟨0, s0, A0, n0, c0, s1, A1, n1, c1, Nat.zero_le _, rfl, hb0, hgs, b0, b1, b2, b3, f0, f1, f2, f3, hi0', hi1'⟩
    case round =>
      clear b0 b1 b2 b3 f0 f1 f2 f3 hi0' hi1' hb0 hgs
      obtain ⟨k, s3, A3, n3, c3, s4, A4, n4, c4, hk, rfl, hb, hgs, b0, b1, b2, b3, f0, f1, f2, f3, hi3, hi4⟩ := hrel
      have hsz := hb.size
      have hkl : k ≤ p.length := by rw [← HL.out]; exact hk
      obtain ⟨dp, ddv⟩ := HDB.out k hkl
      obtain ⟨gp0, gp1, gp2⟩ := HNB.out k hkl
      have dm := HM.out k hkl
      by_cases hlt : k < n
      · have hxw := hx.mono (Kr.of_below hb ex)
        obtain ⟨b, o, rfl, hbx, hbl, ht⟩ := hxw.at_ (by omega)
        have hkp : k < p.length := by have := HL.out; omega
        obtain ⟨s1, A1, n1, c1, s2, A2, n2, c2, e0, e1, e2, e3, e4, e5, e6, e7, h0, h1, h2, h3, h4, h5, h6, h7, h8, h9, h10, h11, hq, hm⟩ := ht k hkp
        have hT := HT.out _ (List.getElem_mem hkp)
        have HND := Lib.hid (And.intro (numG_succ hkp) (denL_succ hkp))
        have hden := p[k].1.den_nz
        have hT1 := hT.1
        have hT2 := hT.2
        obtain ⟨nn, hnn⟩ : ∃ x, p[k].1.num = x := ⟨_, rfl⟩
        obtain ⟨dd, hdd⟩ : ∃ x : Nat, p[k].1.den = x := ⟨_, rfl⟩
        obtain ⟨G, hG⟩ : ∃ x, numG (p.take k) = x := ⟨_, rfl⟩
        obtain ⟨D, hD⟩ : ∃ x, denL (p.take k) = x := ⟨_, rfl⟩
        have hqn := hq.num
        have hqd := hq.den
        rw [hnn] at HND hqn hT1
        rw [hdd] at HND hqd hT2 hden
        rw [hG] at HND hi3 gp0 gp1 gp2
        rw [hD] at HND hi4 dp dm ddv
        have hgd1 : Int.gcd D (dd : Int) ≤ dd := by have := gcd_natAbs_le (a := D) (d := (dd : Int)) (by omega); omega
        have hgd0 : (Int.gcd D (dd : Int) : Int) ≠ 0 := gcd_ne (by omega)
        have hN3 := hi3.n (by omega)
        have hN4 := hi4.n (by omega)
        have hN1 := hqn.n (by omega)
        have hN2 := hqd.n (by omega)
        clear hq hm ht hnn hdd hG hD hT gp2 ddv
        have hmulb : (D * (dd : Int)).natAbs < 4294967296 := by
          rw [Int.natAbs_mul, Int.natAbs_natCast]
          have h1 : D.natAbs < 65536 := by omega
          have := Nat.mul_lt_mul'' h1 hT2
          omega
        have hkn : (k : Int) < (n : Int) := by omega
        go_wp2_with fail
        clear h0 h1 h2 h3 h4 h5 h6 h7 h8 h9 h10 h11
        go_cut [7, 8, 9] (fun v7 v8 v9 w' => ∃ b7 sq Aq nq cq, v7 = .pointer (some ⟨b7, 0, none⟩) ∧ v9 = .int .i64 0 ∧ Below wr.heap.size wr w' ∧ wr.heap.size < b7 ∧ b7 < w'.heap.size ∧ w'.cell? ⟨b7, 0, none⟩ = some (.bool sq) ∧ w'.cell? ⟨b7, 1, none⟩ = some (.slice Aq nq cq) ∧
            w'.cell? ⟨wr.heap.size, 0, none⟩ = some (.bool s1) ∧ w'.cell? ⟨wr.heap.size, 1, none⟩ = some (.slice A1 n1 c1) ∧ RI w' ex sq Aq nq cq (D * (dd : Int) / (Int.gcd D (dd : Int) : Int)))
        case first =>
          go_region_held3 (fun w' => w'.cell? ⟨g + 1, 0, none⟩ = some (.bool s4) ∧ w'.cell? ⟨g + 1, 0 + 1, none⟩ = some (.slice A4 n4 c4) ∧ w'.cell? ⟨wr.heap.size, 2, none⟩ = some (.bool s2) ∧ w'.cell? ⟨wr.heap.size, 2 + 1, none⟩ = some (.slice A2 n2 c2))
            ((repeat' apply And.intro) <;> first | (simp [*, go_sem, ↓IntWalk.iteOmega]; done) | (refine got_of ?_; simp [*, go_sem, ↓IntWalk.iteOmega]; done))
            (first | (go_at_call 137; refine (imul_ok _ ex s4 A4 n4 c4 D s2 A2 n2 c2 (dd : Int) (hi4.mono (Kr.of_below (by repeat first | with_reducible exact .refl .. | with_reducible assumption | refine .s ?_ ?_ | refine .m ?_ ?_ | refine .l ?_ ?_ | refine .d ?_ | refine .e ?_ | (simp <;> omega) | omega) _)) (hqd.mono (Kr.of_below (by repeat first | with_reducible exact .refl .. | with_reducible assumption | refine .s ?_ ?_ | refine .m ?_ ?_ | refine .l ?_ ?_ | refine .d ?_ | refine .e ?_ | (simp <;> omega) | omega) _)) (by omega) (by omega) (fun b hb => by have := hex b hb; simp; omega)).mono ?_; rintro e w' ⟨s5, A5, n5, c5, X5, D5, rfl, rfl, h5⟩) | (go_at_call 138; refine (gcd_ok _ ex s4 A4 n4 c4 D s2 A2 n2 c2 (dd : Int) (hi4.mono (Kr.of_below (by repeat first | with_reducible exact .refl .. | with_reducible assumption | refine .s ?_ ?_ | refine .m ?_ ?_ | refine .l ?_ ?_ | refine .d ?_ | refine .e ?_ | (simp <;> omega) | omega) _)) (hqd.mono (Kr.of_below (by repeat first | with_reducible exact .refl .. | with_reducible assumption | refine .s ?_ ?_ | refine .m ?_ ?_ | refine .l ?_ ?_ | refine .d ?_ | refine .e ?_ | (simp <;> omega) | omega) _)) (Wee.of (by omega)) (by omega) (by omega) (fun b hb => by have := hex b hb; simp; omega)).mono ?_; rintro e w' ⟨s6, A6, n6, c6, X6, D6, rfl, rfl, h6⟩) | (go_at_call 136; refine (divmod_ok _ ex s5 A5 n5 c5 _ s6 A6 n6 c6 _ (h5.mono (Kr.of_below (by repeat first | with_reducible exact .refl .. | with_reducible assumption | refine .s ?_ ?_ | refine .m ?_ ?_ | refine .l ?_ ?_ | refine .d ?_ | refine .e ?_ | (simp <;> omega) | omega) _)) (h6.mono (Kr.of_below (by repeat first | with_reducible exact .refl .. | with_reducible assumption | refine .s ?_ ?_ | refine .m ?_ ?_ | refine .l ?_ ?_ | refine .d ?_ | refine .e ?_ | (simp <;> omega) | omega) _)) hgd0 (Wee.of (by omega)) (by have := h5.n hmulb; omega) (by have := h6.n (by omega); omega) (fun b hb => by have := hex b hb; simp; omega)).mono ?_; rintro e w' ⟨s7, A7, n7, c7, s8, A8, n8, c8, X7, D7, rfl, rfl, h7, h8⟩))
          all_goals (rename_i hHeldZ; clear hHeldZ)
          all_goals
            go_wp2_with fail
            go_meet
            case rel => exact ⟨_, s7, A7, n7, c7, rfl, rfl, (by repeat first | with_reducible exact .refl .. | with_reducible assumption | refine .s ?_ ?_ | refine .m ?_ ?_ | refine .l ?_ ?_ | refine .d ?_ | refine .e ?_ | (simp <;> omega) | omega), (by first | (simp; done) | (simp; omega) | omega), (by first | (simp; done) | (simp; omega) | omega), by simp [go_sem, ↓IntWalk.iteOmega], by simp [go_sem, ↓IntWalk.iteOmega], by simp [go_sem, ↓IntWalk.iteOmega], by simp [go_sem, ↓IntWalk.iteOmega], h7.keepW (by repeat (first | (with_reducible exact Kw.refl _) | (with_reducible assumption) | refine Kw.setCell ?_ (by intro x; simp [*, go_sem, ↓IntWalk.iteOmega]) | refine Kw.more ?_ _ _ | refine Kw.alloc ?_ _ | refine Kw.drew ?_ | refine Kw.drewN ?_ _))⟩
        case rest =>
          obtain ⟨b7, sq, Aq, nq, cq, rfl, rfl, hB1, hb71, hb72, j0, j1, j2, j3, hiq⟩ := hcut
          have hsz1 := hB1.size
          have k0 := (Below.at0 hB1 (show g < wr.heap.size by omega) 0).trans b0
          have k1 := (Below.at0 hB1 (show g < wr.heap.size by omega) 1).trans b1
          have k2 := (Below.at0 hB1 (show g + 1 < wr.heap.size by omega) 0).trans b2
          have k3 := (Below.at0 hB1 (show g + 1 < wr.heap.size by omega) 1).trans b3
          have l0 := (hB1.frozen (p := ⟨g, 0, none⟩) (show g < wr.heap.size by omega)).trans f0
          have l1 := (hB1.frozen (p := ⟨g, 1, none⟩) (show g < wr.heap.size by omega)).trans f1
          have l2 := (hB1.frozen (p := ⟨g + 1, 0, none⟩) (show g + 1 < wr.heap.size by omega)).trans f2
          have l3 := (hB1.frozen (p := ⟨g + 1, 1, none⟩) (show g + 1 < wr.heap.size by omega)).trans f3
          have hi3' := hi3.mono (Kr.of_below hB1 _)
          have hqn' := hqn.mono (Kr.of_below hB1 _)
          have hbw := hb.trans (hB1.mono hsz)
          have hgg : g < wc.heap.size := by omega
          clear b0 b1 b2 b3 f0 f1 f2 f3 hi3 hi4 hqn hqd hb
          go_wp2_with fail
          refine (gcd_ok _ ex s3 A3 n3 c3 G s1 A1 n1 c1 nn (hi3'.keepW (by repeat (first | (with_reducible exact Kw.refl _) | (with_reducible assumption) | refine Kw.setCell ?_ (by intro x; simp [*, go_sem, ↓IntWalk.iteOmega]) | refine Kw.more ?_ _ _ | refine Kw.alloc ?_ _ | refine Kw.drew ?_ | refine Kw.drewN ?_ _))) (hqn'.keepW (by repeat (first | (with_reducible exact Kw.refl _) | (with_reducible assumption) | refine Kw.setCell ?_ (by intro x; simp [*, go_sem, ↓IntWalk.iteOmega]) | refine Kw.more ?_ _ _ | refine Kw.alloc ?_ _ | refine Kw.drew ?_ | refine Kw.drewN ?_ _))) (Wee.of (by omega)) (by omega) (by omega) (fun b hb => by have := hex b hb; simp; omega)).mono ?_; rintro e w1 ⟨s9, A9, n9, c9, X9, D9, rfl, rfl, h9⟩
          go_wp2_with fail
          go_roundw
          case rel => exact ⟨k + 1, s9, A9, n9, c9, sq, Aq, nq, cq, by omega, by go_num, hbw.trans (show Below w.heap.size wc _ from (by repeat first | with_reducible exact .refl .. | with_reducible assumption | refine .s ?_ ?_ | refine .m ?_ ?_ | refine .l ?_ ?_ | refine .d ?_ | refine .e ?_ | (simp <;> omega) | omega)), by simp; omega, by simp [*, go_sem, ↓IntWalk.iteOmega], by simp [*, go_sem, ↓IntWalk.iteOmega], by simp [*, go_sem, ↓IntWalk.iteOmega], by simp [*, go_sem, ↓IntWalk.iteOmega], by simp [*, go_sem, ↓IntWalk.iteOmega], by simp [*, go_sem, ↓IntWalk.iteOmega], by simp [*, go_sem, ↓IntWalk.iteOmega], by simp [*, go_sem, ↓IntWalk.iteOmega], by rw [HND.out.1]; exact h9.keepW (by repeat (first | (with_reducible exact Kw.refl _) | (with_reducible assumption) | refine Kw.setCell ?_ (by intro x; simp [*, go_sem, ↓IntWalk.iteOmega]) | refine Kw.more ?_ _ _ | refine Kw.alloc ?_ _ | refine Kw.drew ?_ | refine Kw.drewN ?_ _)), by rw [HND.out.2]; exact hiq.keepW (by repeat (first | (with_reducible exact Kw.refl _) | (with_reducible assumption) | refine Kw.setCell ?_ (by intro x; simp [*, go_sem, ↓IntWalk.iteOmega]) | refine Kw.more ?_ _ _ | refine Kw.alloc ?_ _ | refine Kw.drew ?_ | refine Kw.drewN ?_ _))⟩
          case measure => simp [intOf]; omega
      · obtain rfl : k = n := by omega
        have hxw := hx.mono (Kr.of_below hb ex)
        obtain ⟨b, o, rfl, hbx, hbl, ht⟩ := hxw.at_ (by omega)
        have h0p : 0 < p.length := by rw [← HL.out]; omega
        obtain ⟨s1, A1, n1, c1, s2, A2, n2, c2, e0, e1, e2, e3, e4, e5, e6, e7, h0, h1, h2, h3, h4, h5, h6, h7, h8, h9, h10, h11, hq, hm⟩ := ht 0 h0p
        rw [show o + 0 * 12 = o by omega] at h0 h1
        have hall : p.take k = p := List.take_of_length_le (by rw [← HL.out]; exact Nat.le_refl _)
        have hhd : p.headD (0, []) = p[0] := by
          cases p with
          | nil => simp at h0p
          | cons a r => rfl
        have hpne : p ≠ [] := by rintro rfl; simp at h0p
        have hgz := gp2 (by omega)
        rw [hall] at hi3 hi4 dp dm gp0 gp1 hgz
        have hneg : p[0].1 < 0 ↔ p[0].1.num < 0 := rat_neg_iff
        have hnz := HNZ.out _ (List.getElem_mem h0p)
        have hnum : p[0].1.num ≠ 0 := fun e => hnz (Rat.num_eq_zero.1 e)
        have HC : Hid (normP p = timesP (Rat.divInt (denL p) (if p[0].1.num < 0 then -(numG p) else numG p)) mono0 p) := Lib.hid (by
          unfold normP normC
          rw [if_neg hpne, hhd]
          by_cases hc : p[0].1.num < 0
          · rw [if_pos (hneg.2 hc), if_pos hc]
          · rw [if_neg (fun h => hc (hneg.1 h)), if_neg hc])
        obtain ⟨G, hG⟩ : ∃ x, numG p = x := ⟨_, rfl⟩
        obtain ⟨D, hD⟩ : ∃ x, denL p = x := ⟨_, rfl⟩
        have hqn := hq.num
        rw [hG, hD] at HC
        rw [hG] at hi3 gp0 gp1 hgz
        rw [hD] at hi4 dp dm
        obtain ⟨q0, hq0⟩ : ∃ x, p[0].1.num = x := ⟨_, rfl⟩
        rw [hq0] at HC hqn hnum
        have hN3 := hi3.n (by omega)
        have hN4 := hi4.n (by omega)
        clear hq hm ht hG hD hneg hnz hq0 hhd hall hpne h2 h3 h4 h5 h6 h7 h8 h9 h10 h11 gp2 ddv
        have hT' : ∀ (dd : Int), dd ≠ 0 → dd.natAbs < 65536 → Few (Rat.divInt D dd) ∧ ∀ t ∈ p, Few t.1 ∧ Wee ((Rat.divInt D dd).den * t.1.den) := by
          intro dd hd0 hd1
          obtain ⟨u1, u2⟩ := divInt_bound (a := D) hd0
          refine ⟨⟨?_, ?_⟩, fun t ht => ⟨(HT.out t ht).few, Wee.of ?_⟩⟩
          · have := wl_small (z := (Rat.divInt D dd).num) (by omega); omega
          · have := wl_small (z := ((Rat.divInt D dd).den : Int)) (by omega); omega
          · have := Nat.mul_lt_mul'' (show (Rat.divInt D dd).den < 65536 by omega) (HT.out t ht).2; omega
        by_cases hng : q0 < 0
        · have hsg : q0.sign = -1 := Int.sign_eq_neg_one_of_neg hng
          have HC2 : Hid (normP p = timesP (Rat.divInt D (-G)) mono0 p) := Lib.hid (by rw [HC.out, if_pos hng])
          obtain ⟨u1, u2⟩ := hT' (-G) (by omega) (by omega)
          have HU := Lib.hid u2
          clear u2 hT'
          go_wp2_with fail
          refine (sign_ok _ ex s1 A1 n1 c1 q0 hqn).mono ?_; rintro e w1 ⟨X1, D1, rfl, rfl⟩
          rw [hsg]
          go_wp2_with fail
          refine (ineg_ok _ ex s3 A3 n3 c3 G (hi3.mono (Kr.of_below (by repeat first | with_reducible exact .refl .. | with_reducible assumption | refine .s ?_ ?_ | refine .m ?_ ?_ | refine .l ?_ ?_ | refine .d ?_ | refine .e ?_ | (simp <;> omega) | omega) _)) (by omega) (fun b hb => by have := hex b hb; simp; omega)).mono ?_; rintro e w1 ⟨s9, A9, n9, c9, X9, D9, rfl, rfl, h9⟩
          go_wp2_with fail
          refine (ratnew_ok _ ex s4 A4 n4 c4 D s9 A9 n9 c9 (-G) ((hi4.mono (Kr.of_below (by repeat first | with_reducible exact .refl .. | with_reducible assumption | refine .s ?_ ?_ | refine .m ?_ ?_ | refine .l ?_ ?_ | refine .d ?_ | refine .e ?_ | (simp <;> omega) | omega) _)).keepW (by repeat (first | (with_reducible exact Kw.refl _) | (with_reducible assumption) | refine Kw.setCell ?_ (by intro x; simp [*, go_sem, ↓IntWalk.iteOmega]) | refine Kw.more ?_ _ _ | refine Kw.alloc ?_ _ | refine Kw.drew ?_ | refine Kw.drewN ?_ _))) (h9.keepW (by repeat (first | (with_reducible exact Kw.refl _) | (with_reducible assumption) | refine Kw.setCell ?_ (by intro x; simp [*, go_sem, ↓IntWalk.iteOmega]) | refine Kw.more ?_ _ _ | refine Kw.alloc ?_ _ | refine Kw.drew ?_ | refine Kw.drewN ?_ _))) (by omega) (Wee.of (by omega)) (by omega) (by have := h9.n (by omega); omega) (fun b hb => by have := hex b hb; simp; omega)).mono ?_; rintro e w1 ⟨s5, A5, n5, c5, s6, A6, n6, c6, X5, D5, rfl, rfl, h5⟩
          go_wp2_with fail
          refine (pscaled_ok _ ex s5 A5 n5 c5 s6 A6 n6 c6 _ _ k c p (h5.keepW (by repeat (first | (with_reducible exact Kw.refl _) | (with_reducible assumption) | refine Kw.setCell ?_ (by intro x; simp [*, go_sem, ↓IntWalk.iteOmega]) | refine Kw.more ?_ _ _ | refine Kw.alloc ?_ _ | refine Kw.drew ?_ | refine Kw.drewN ?_ _))) (hx.mono (Kr.of_below (hb.trans (show Below w.heap.size wr _ from (by repeat first | with_reducible exact .refl .. | with_reducible assumption | refine .s ?_ ?_ | refine .m ?_ ?_ | refine .l ?_ ?_ | refine .d ?_ | refine .e ?_ | (simp <;> omega) | omega))) _)) HP.out u1 HU.out (by omega) (fun b hb => by have := hex b hb; simp; omega)).mono ?_; rintro e w1 ⟨A7, n7, c7, X7, D7, rfl, rfl, h7⟩
          go_wp2_with fail
          go_ret
          rw [HC2.out]
          exact RetP.mk rfl (hb.trans (show Below w.heap.size wr _ from (by repeat first | with_reducible exact .refl .. | with_reducible assumption | refine .s ?_ ?_ | refine .m ?_ ?_ | refine .l ?_ ?_ | refine .d ?_ | refine .e ?_ | (simp <;> omega) | omega))) h7
        · have hsg : q0.sign = 1 := Int.sign_eq_one_of_pos (by omega)
          have HC2 : Hid (normP p = timesP (Rat.divInt D G) mono0 p) := Lib.hid (by rw [HC.out, if_neg hng])
          obtain ⟨u1, u2⟩ := hT' G (by omega) (by omega)
          have HU := Lib.hid u2
          clear u2 hT'
          go_wp2_with fail
          refine (sign_ok _ ex s1 A1 n1 c1 q0 hqn).mono ?_; rintro e w1 ⟨X1, D1, rfl, rfl⟩
          rw [hsg]
          go_wp2_with fail
          refine (ratnew_ok _ ex s4 A4 n4 c4 D s3 A3 n3 c3 G (hi4.mono (Kr.of_below (by repeat first | with_reducible exact .refl .. | with_reducible assumption | refine .s ?_ ?_ | refine .m ?_ ?_ | refine .l ?_ ?_ | refine .d ?_ | refine .e ?_ | (simp <;> omega) | omega) _)) (hi3.mono (Kr.of_below (by repeat first | with_reducible exact .refl .. | with_reducible assumption | refine .s ?_ ?_ | refine .m ?_ ?_ | refine .l ?_ ?_ | refine .d ?_ | refine .e ?_ | (simp <;> omega) | omega) _)) (by omega) (Wee.of (by omega)) (by omega) (by omega) (fun b hb => by have := hex b hb; simp; omega)).mono ?_; rintro e w1 ⟨s5, A5, n5, c5, s6, A6, n6, c6, X5, D5, rfl, rfl, h5⟩
          go_wp2_with fail
          refine (pscaled_ok _ ex s5 A5 n5 c5 s6 A6 n6 c6 _ _ k c p (h5.keepW (by repeat (first | (with_reducible exact Kw.refl _) | (with_reducible assumption) | refine Kw.setCell ?_ (by intro x; simp [*, go_sem, ↓IntWalk.iteOmega]) | refine Kw.more ?_ _ _ | refine Kw.alloc ?_ _ | refine Kw.drew ?_ | refine Kw.drewN ?_ _))) (hx.mono (Kr.of_below (hb.trans (show Below w.heap.size wr _ from (by repeat first | with_reducible exact .refl .. | with_reducible assumption | refine .s ?_ ?_ | refine .m ?_ ?_ | refine .l ?_ ?_ | refine .d ?_ | refine .e ?_ | (simp <;> omega) | omega))) _)) HP.out u1 HU.out (by omega) (fun b hb => by have := hex b hb; simp; omega)).mono ?_; rintro e w1 ⟨A7, n7, c7, X7, D7, rfl, rfl, h7⟩
          go_wp2_with fail
          go_ret
          rw [HC2.out]
          exact RetP.mk rfl (hb.trans (show Below w.heap.size wr _ from (by repeat first | with_reducible exact .refl .. | with_reducible assumption | refine .s ?_ ?_ | refine .m ?_ ?_ | refine .l ?_ ?_ | refine .d ?_ | refine .e ?_ | (simp <;> omega) | omega))) h7

end Go.Proofs.YthhdleppkggepaaGreat

/-
  slices.SortFunc at polynomials: where the library's functions and types lie in this program (printed by the kit's own tool).
-/
namespace Go.Proofs
open Go.Shelf
def Tryz.sortP_ren : Go.Shelf.Ren := ⟨fun | 6 => 96 | 15 => 143 | 14 => 142 | 28 => 186 | 29 => 187 | 20 => 178 | 21 => 179 | 22 => 180 | 23 => 181 | 24 => 182 | 25 => 183 | 26 => 184 | 27 => 185 | 46 => 213 | 47 => 214 | 48 => 215 | 49 => 216 | 50 => 217 | 57 => 232 | n => n, fun | 22 => 25 | 24 => 65 | 25 => 146 | 3 => 3 | 39 => 178 | 0 => 0 | 53 => 192 | 55 => 157 | 4 => 4 | 46 => 205 | 45 => 204 | 50 => 209 | 5 => 5 | 9 => 9 | 66 => 236 | 70 => 240 | 76 => 255 | 77 => 256 | n => n, fun | n => n⟩
theorem Tryz.sortP : Go.Proofs.SlLaysF.n6 Tryz.prog Tryz.sortP_ren := {
  mixed := by kernel_rfl
  f6 := ⟨Tryz.f96.name, by decide, Tryz.func96.trans (congrArg some (by kernel_rfl))⟩
  f14 := ⟨Tryz.f142.name, by decide, Tryz.func142.trans (congrArg some (by kernel_rfl))⟩
  f15 := Tryz.func143.trans (congrArg some (by kernel_rfl))
  f20 := ⟨Tryz.f178.name, by decide, Tryz.func178.trans (congrArg some (by kernel_rfl))⟩
  f21 := ⟨Tryz.f179.name, by decide, Tryz.func179.trans (congrArg some (by kernel_rfl))⟩
  f22 := ⟨Tryz.f180.name, by decide, Tryz.func180.trans (congrArg some (by kernel_rfl))⟩
  f23 := ⟨Tryz.f181.name, by decide, Tryz.func181.trans (congrArg some (by kernel_rfl))⟩
  f24 := ⟨Tryz.f182.name, by decide, Tryz.func182.trans (congrArg some (by kernel_rfl))⟩
  f25 := ⟨Tryz.f183.name, by decide, Tryz.func183.trans (congrArg some (by kernel_rfl))⟩
  f26 := ⟨Tryz.f184.name, by decide, Tryz.func184.trans (congrArg some (by kernel_rfl))⟩
  f27 := ⟨Tryz.f185.name, by decide, Tryz.func185.trans (congrArg some (by kernel_rfl))⟩
  f28 := Tryz.func186.trans (congrArg some (by kernel_rfl))
  f29 := Tryz.func187.trans (congrArg some (by kernel_rfl))
  f46 := ⟨Tryz.f213.name, by decide, Tryz.func213.trans (congrArg some (by kernel_rfl))⟩
  f47 := Tryz.func214.trans (congrArg some (by kernel_rfl))
  f48 := Tryz.func215.trans (congrArg some (by kernel_rfl))
  f49 := ⟨Tryz.f216.name, by decide, Tryz.func216.trans (congrArg some (by kernel_rfl))⟩
  f50 := ⟨Tryz.f217.name, by decide, Tryz.func217.trans (congrArg some (by kernel_rfl))⟩
  f57 := ⟨Tryz.f232.name, by decide, Tryz.func232.trans (congrArg some (by kernel_rfl))⟩
  t0 := Tryz.underlying0
  a0 := Tryz.isAgg0
  z0 := Tryz.sizeOf0
  v0 := Tryz.zeroValue0
  t3 := Tryz.underlying3
  a3 := Tryz.isAgg3
  z3 := Tryz.sizeOf3
  v3 := Tryz.zeroValue3
  t4 := Tryz.underlying4
  a4 := Tryz.isAgg4
  z4 := Tryz.sizeOf4
  v4 := Tryz.zeroValue4
  t5 := Tryz.underlying5
  a5 := Tryz.isAgg5
  z5 := Tryz.sizeOf5
  v5 := Tryz.zeroValue5
  t9 := Tryz.underlying9
  a9 := Tryz.isAgg9
  z9 := Tryz.sizeOf9
  v9 := Tryz.zeroValue9
  t22 := Tryz.underlying25
  a22 := Tryz.isAgg25
  z22 := Tryz.sizeOf25
  v22 := Tryz.zeroValue25
  a24 := Tryz.isAgg65
  z24 := Tryz.sizeOf65
  t25 := Tryz.underlying146
  a25 := Tryz.isAgg146
  z25 := Tryz.sizeOf146
  v25 := Tryz.zeroValue146
  t39 := Tryz.underlying178
  a39 := Tryz.isAgg178
  z39 := Tryz.sizeOf178
  v39 := Tryz.zeroValue178
  t45 := Tryz.underlying204
  a45 := Tryz.isAgg204
  z45 := Tryz.sizeOf204
  v45 := Tryz.zeroValue204
  t46 := Tryz.underlying205
  a46 := Tryz.isAgg205
  z46 := Tryz.sizeOf205
  v46 := Tryz.zeroValue205
  t50 := Tryz.underlying209
  a50 := Tryz.isAgg209
  z50 := Tryz.sizeOf209
  v50 := Tryz.zeroValue209
  t53 := Tryz.underlying192
  a53 := Tryz.isAgg192
  z53 := Tryz.sizeOf192
  v53 := Tryz.zeroValue192
  t55 := Tryz.underlying157
  a55 := Tryz.isAgg157
  z55 := Tryz.sizeOf157
  v55 := Tryz.zeroValue157
  t66 := Tryz.underlying236
  a66 := Tryz.isAgg236
  z66 := Tryz.sizeOf236
  v66 := Tryz.zeroValue236
  t70 := Tryz.underlying240
  a70 := Tryz.isAgg240
  z70 := Tryz.sizeOf240
  v70 := Tryz.zeroValue240
  t76 := Tryz.underlying255
  a76 := Tryz.isAgg255
  z76 := Tryz.sizeOf255
  v76 := Tryz.zeroValue255
  t77 := Tryz.underlying256
  a77 := Tryz.isAgg256
  z77 := Tryz.sizeOf256
  v77 := Tryz.zeroValue256 }
end Go.Proofs

/-
  The walks of package rational: order.
-/
namespace Go.Proofs.YthhdleppkggepaaGreat
open Go.RowKit Go.Deep
set_option maxRecDepth 100000

set_option maxHeartbeats 1000000 in
theorem ratcmp_ok (w : World) (ex : List Nat) (s1 : Bool) (A1 : Option Addr) (n1 c1 : Nat) (s2 : Bool) (A2 : Option Addr) (n2 c2 : Nat) (a : Rat) (s3 : Bool) (A3 : Option Addr) (n3 c3 : Nat) (s4 : Bool) (A4 : Option Addr) (n4 c4 : Nat) (b : Rat)
    (hx : RQ w ex s1 A1 n1 c1 s2 A2 n2 c2 a) (hy : RQ w ex s3 A3 n3 c3 s4 A4 n4 c4 b) (ha : Few a) (hb : Few b) :
    Calls Tryz.prog 146 #[.agg #[.bool s1, .slice A1 n1 c1, .bool s2, .slice A2 n2 c2], .agg #[.bool s3, .slice A3 n3 c3, .bool s4, .slice A4 n4 c4]] w (RetV w (.int .i64 (cmpQ a b))) := by
  have hn1 : n1 ≤ 400000 := by rw [hx.num.len]; exact ha.1
  have hn2 : n2 ≤ 400000 := by rw [hx.den.len]; exact ha.2
  have hn3 : n3 ≤ 400000 := by rw [hy.num.len]; exact hb.1
  have hn4 : n4 ≤ 400000 := by rw [hy.den.len]; exact hb.2
  have HN1 : Hid (∀ m, m = wl (a.num * b.den) → m ≤ 1000000) := by
    rintro m rfl; have := wl_mul a.num b.den; have := ha.1; have := hb.2; omega
  have HN2 : Hid (∀ m, m = wl (b.num * a.den) → m ≤ 1000000) := by
    rintro m rfl; have := wl_mul b.num a.den; have := hb.1; have := ha.2; omega
  go_enter Tryz.func146, Tryz.ntmps146
  go_wp2_with fail
  go_region_held3 (fun w' => w'.cell? ⟨w.heap.size, 0, none⟩ = some (.bool s1) ∧ w'.cell? ⟨w.heap.size, 1, none⟩ = some (.slice A1 n1 c1) ∧ w'.cell? ⟨w.heap.size, 2, none⟩ = some (.bool s2) ∧ w'.cell? ⟨w.heap.size, 3, none⟩ = some (.slice A2 n2 c2) ∧ w'.cell? ⟨w.heap.size + 1, 0, none⟩ = some (.bool s3) ∧ w'.cell? ⟨w.heap.size + 1, 1, none⟩ = some (.slice A3 n3 c3) ∧ w'.cell? ⟨w.heap.size + 1, 2, none⟩ = some (.bool s4) ∧ w'.cell? ⟨w.heap.size + 1, 3, none⟩ = some (.slice A4 n4 c4))
    ((repeat' apply And.intro) <;> first | (simp [*, go_sem, ↓IntWalk.iteOmega]; done) | (refine got_of ?_; simp [*, go_sem, ↓IntWalk.iteOmega]; done))
    (first | (go_at_call 165; have hgo := Lib.hid hN1; refine (product_ok _ [] _ _ _ _ _ _ _ _ _ _ _ _ (by simp [go_sem, ↓IntWalk.iteOmega]; done) (by simp [go_sem, ↓IntWalk.iteOmega]; done) (by simp [go_sem, ↓IntWalk.iteOmega]; done) (by simp [go_sem, ↓IntWalk.iteOmega]; done) (Nat.le_refl _) (hy.num.mono ((Kr.of_below (by repeat first | with_reducible exact .refl .. | with_reducible assumption | refine .s ?_ ?_ | refine .m ?_ ?_ | refine .l ?_ ?_ | refine .d ?_ | refine .e ?_ | (simp <;> omega) | omega) ex).sub (by simp))) (hx.den.mono ((Kr.of_below (by repeat first | with_reducible exact .refl .. | with_reducible assumption | refine .s ?_ ?_ | refine .m ?_ ?_ | refine .l ?_ ?_ | refine .d ?_ | refine .e ?_ | (simp <;> omega) | omega) ex).sub (by simp))) (by omega) (by omega) (by simp)).mono ?_; rintro e w' ⟨sn2, An2, mn2, cn2, XN2, DN2, rfl, rfl, hN2⟩) | (go_at_call 165; refine (product_ok _ [] _ _ _ _ _ _ _ _ _ _ _ _ (by simp [go_sem, ↓IntWalk.iteOmega]; done) (by simp [go_sem, ↓IntWalk.iteOmega]; done) (by simp [go_sem, ↓IntWalk.iteOmega]; done) (by simp [go_sem, ↓IntWalk.iteOmega]; done) (Nat.le_refl _) (hx.num.mono ((Kr.of_below (by repeat first | with_reducible exact .refl .. | with_reducible assumption | refine .s ?_ ?_ | refine .m ?_ ?_ | refine .l ?_ ?_ | refine .d ?_ | refine .e ?_ | (simp <;> omega) | omega) ex).sub (by simp))) (hy.den.mono ((Kr.of_below (by repeat first | with_reducible exact .refl .. | with_reducible assumption | refine .s ?_ ?_ | refine .m ?_ ?_ | refine .l ?_ ?_ | refine .d ?_ | refine .e ?_ | (simp <;> omega) | omega) ex).sub (by simp))) (by omega) (by omega) (by simp)).mono ?_; rintro e w' ⟨sn1, An1, mn1, cn1, XN1, DN1, rfl, rfl, hN1⟩) | (go_at_call 170; refine (icmp_ok _ [] _ _ _ _ _ _ _ _ _ _ (hN1.mono (by repeat (first | (with_reducible exact Kr.refl _ _) | (with_reducible assumption) | refine Kr.setCell ?_ _ (by simp) | refine Kr.more ?_ _ _ | refine Kr.alloc_ ?_ _ | refine Kr.drew ?_ | refine Kr.drewN ?_ _))) (hN2.mono (by repeat (first | (with_reducible exact Kr.refl _ _) | (with_reducible assumption) | refine Kr.setCell ?_ _ (by simp) | refine Kr.more ?_ _ _ | refine Kr.alloc_ ?_ _ | refine Kr.drew ?_ | refine Kr.drewN ?_ _))) (by have := HN1.out _ hN1.len; omega) (by have := HN2.out _ hN2.len; omega)).mono ?_; rintro e w' ⟨X6, D6, rfl, rfl⟩; rw [cmpQ_law]))
  all_goals
    go_wp2_with fail
    go_ret
    exact RetV.mk rfl (by repeat first | with_reducible exact .refl .. | with_reducible assumption | refine .s ?_ ?_ | refine .m ?_ ?_ | refine .l ?_ ?_ | refine .d ?_ | refine .e ?_ | (simp <;> omega) | omega)

end Go.Proofs.YthhdleppkggepaaGreat
