/-
  The bytes that package claim writes: a term.
-/
import Derived.Test.YthhdleppkggepaaGreatSb07
import Derived.Test.YthhdleppkggepaaGreatSb12
import Derived.Test.YthhdleppkggepaaGreatSb13

set_option linter.unusedSimpArgs false
set_option linter.unusedVariables false
set_option linter.unusedSectionVars false

namespace Go.Proofs.YthhdleppkggepaaGreat
open Go.RowKit Go.Deep
set_option maxRecDepth 100000

def monB (m : List Int) : List Nat := m.flatMap (fun x => natB x.toNat)
def termB (t : Rat × List Int) : List Nat := ratB t.1 ++ monB t.2
theorem take_getD {l : List Int} {k : Nat} (hk : k < l.length) : l.take (k + 1) = l.take k ++ [l.getD k 0] := by
  rw [List.take_succ_eq_append_getElem hk]
  simp [List.getD, hk]
theorem monB_take (m : List Int) {k : Nat} (hk : k < m.length) : monB (m.take (k + 1)) = monB (m.take k) ++ natB (m.getD k 0).toNat := by
  unfold monB
  rw [take_getD hk, List.flatMap_append]; simp
theorem monB_take_le (m : List Int) (k : Nat) : (monB (m.take k)).length ≤ (monB m).length := by
  unfold monB
  conv => rhs; rw [← List.take_append_drop k m, List.flatMap_append, List.length_append]
  exact Nat.le_add_right _ _
/-- A block apart from the writer. -/
structure Apart (w : World) (g : Nat) (v : Value) (p : Nat) : Prop where
  lt : p < w.heap.size
  ne : p ≠ g
  out : p ∉ own v
theorem Apart.not {w : World} {g : Nat} {v : Value} {p : Nat} (h : Apart w g v p) : p ∉ [g] ++ (own v ++ ([] : List Nat)) := by
  intro hh
  rcases List.mem_append.1 hh with hh | hh
  · simp at hh; exact h.ne hh
  · rw [List.append_nil] at hh; exact h.out hh
theorem Apart.kr {w w' : World} {g : Nat} {v v' : Value} {p : Nat} (h : Apart w g v p) (hk : ∀ ex, Kr w ([g] ++ (own v ++ ex)) w' ([g] ++ (own v' ++ ex))) : Apart w' g v' p := by
  have := (hk []).out p h.lt h.not
  refine ⟨Nat.lt_of_lt_of_le h.lt (hk []).size, h.ne, fun hh => this ?_⟩
  simp [hh]
theorem Apart.new {w : World} {base g : Nat} {v : Value} {bs : List Nat} (h : WS w base g v bs) {w' : World} {p : Nat} (hp : w.heap.size ≤ p) (hp' : p < w'.heap.size) : Apart w' g v p := by
  refine ⟨hp', fun e => ?_, fun hh => ?_⟩
  · have := h.glt; omega
  · have := (h.mine.le p hh).2; omega
theorem Apart.cell {w w' : World} {g : Nat} {v v' : Value} {p : Nat} (h : Apart w g v p) (hk : ∀ ex, Kr w ([g] ++ (own v ++ ex)) w' ([g] ++ (own v' ++ ex))) (o : Nat) : w'.cell? ⟨p, o, none⟩ = w.cell? ⟨p, o, none⟩ := (hk []).cell h.lt h.not o

set_option maxHeartbeats 4000000 in
theorem wterm_ok (w : World) (base g : Nat) (v : Value) (bs : List Nat) (ex : List Nat) (p : Nat) (s1 : Bool) (A1 : Option Addr) (n1 c1 : Nat) (s2 : Bool) (A2 : Option Addr) (n2 c2 : Nat) (e0 e1 e2 e3 e4 e5 e6 e7 : Int) (q : Rat) (hs : WS w base g v bs) (hx : RQ w ([g] ++ (own v ++ ex)) s1 A1 n1 c1 s2 A2 n2 c2 q) (hm : Exps [e0, e1, e2, e3, e4, e5, e6, e7]) (hp : Apart w g v p) (hc : w.cell? ⟨p, 0, none⟩ = some (.pointer (some ⟨g, 0, none⟩))) (hl : bs.length + (termB (q, [e0, e1, e2, e3, e4, e5, e6, e7])).length ≤ 10000000000) :
    Calls Tryz.prog 226 #[.agg #[.bool s1, .slice A1 n1 c1, .bool s2, .slice A2 n2 c2, .int .i64 e0, .int .i64 e1, .int .i64 e2, .int .i64 e3, .int .i64 e4, .int .i64 e5, .int .i64 e6, .int .i64 e7], .pointer (some ⟨p, 0, none⟩)] w (RetWr w base g v (bs ++ termB (q, [e0, e1, e2, e3, e4, e5, e6, e7]))) := by
  have HS := Lib.hid hs
  have HX := Lib.hid hx
  have HM := Lib.hid hm
  have HL := Lib.hid (show bs.length + (ratB q).length + (monB [e0, e1, e2, e3, e4, e5, e6, e7]).length ≤ 10000000000 by
    have e : (termB (q, [e0, e1, e2, e3, e4, e5, e6, e7])).length = (ratB q).length + (monB [e0, e1, e2, e3, e4, e5, e6, e7]).length := by unfold termB; rw [List.length_append]
    omega)
  have HP := Lib.hid hp
  have hplt := hp.lt
  clear hs hx hl hm
  go_enter Tryz.func226, Tryz.ntmps226
  go_wp2_with fail
  refine wp_abs (fun W1 => Below w.heap.size w W1 ∧ w.heap.size < W1.heap.size ∧ W1.cell? ⟨w.heap.size, 0, none⟩ = some (.bool s1) ∧ W1.cell? ⟨w.heap.size, 1, none⟩ = some (.slice A1 n1 c1) ∧ W1.cell? ⟨w.heap.size, 2, none⟩ = some (.bool s2) ∧ W1.cell? ⟨w.heap.size, 3, none⟩ = some (.slice A2 n2 c2) ∧ W1.cell? ⟨w.heap.size, 4, none⟩ = some (.int .i64 e0) ∧ W1.cell? ⟨w.heap.size, 5, none⟩ = some (.int .i64 e1) ∧ W1.cell? ⟨w.heap.size, 6, none⟩ = some (.int .i64 e2) ∧ W1.cell? ⟨w.heap.size, 7, none⟩ = some (.int .i64 e3) ∧ W1.cell? ⟨w.heap.size, 8, none⟩ = some (.int .i64 e4) ∧ W1.cell? ⟨w.heap.size, 9, none⟩ = some (.int .i64 e5) ∧ W1.cell? ⟨w.heap.size, 10, none⟩ = some (.int .i64 e6) ∧ W1.cell? ⟨w.heap.size, 11, none⟩ = some (.int .i64 e7))
    ⟨(by repeat first | with_reducible exact .refl .. | with_reducible assumption | refine .s ?_ ?_ | refine .m ?_ ?_ | refine .l ?_ ?_ | refine .d ?_ | refine .e ?_ | (simp <;> omega) | omega), by simp, by simp [go_sem, ↓IntWalk.iteOmega], by simp [go_sem, ↓IntWalk.iteOmega], by simp [go_sem, ↓IntWalk.iteOmega], by simp [go_sem, ↓IntWalk.iteOmega], by simp [go_sem, ↓IntWalk.iteOmega], by simp [go_sem, ↓IntWalk.iteOmega], by simp [go_sem, ↓IntWalk.iteOmega], by simp [go_sem, ↓IntWalk.iteOmega], by simp [go_sem, ↓IntWalk.iteOmega], by simp [go_sem, ↓IntWalk.iteOmega], by simp [go_sem, ↓IntWalk.iteOmega], by simp [go_sem, ↓IntWalk.iteOmega]⟩ ?_
  rintro W1 ⟨hB1, hS1, b0, b1, b2, b3, x0, x1, x2, x3, x4, x5, x6, x7⟩
  have hpc := (hB1.at0 hplt 0).trans hc
  have HF := Lib.hid (HS.out.far (Nat.le_refl _))
  clear hc
  go_cut [] (fun w' => ∃ v', WS w' base g v' (bs ++ ratB q) ∧ (∀ ex, Kr W1 ([g] ++ (own v ++ ex)) w' ([g] ++ (own v' ++ ex))) ∧ Below g w w')
  case first =>
    go_region_held3 (fun w' => w'.cell? ⟨p, 0, none⟩ = some (.pointer (some ⟨g, 0, none⟩)) ∧ w'.cell? ⟨w.heap.size, 0, none⟩ = some (.bool s1) ∧ w'.cell? ⟨w.heap.size, 0 + 1, none⟩ = some (.slice A1 n1 c1) ∧ w'.cell? ⟨w.heap.size, 0 + 2, none⟩ = some (.bool s2) ∧ w'.cell? ⟨w.heap.size, 0 + 3, none⟩ = some (.slice A2 n2 c2))
      ((repeat' apply And.intro) <;> first | (simp [*, go_sem, ↓IntWalk.iteOmega]; done) | (refine got_of ?_; simp [*, go_sem, ↓IntWalk.iteOmega]; done))
      (first | (go_at_call 227; refine (wrational_ok _ base g v bs ex s1 A1 n1 c1 s2 A2 n2 c2 q (HS.out.keep (by repeat first | with_reducible exact .refl .. | with_reducible assumption | refine .s ?_ ?_ | refine .m ?_ ?_ | refine .l ?_ ?_ | refine .d ?_ | refine .e ?_ | (simp <;> omega) | omega)) (HX.out.mono (Kr.of_below (by repeat first | with_reducible exact .refl .. | with_reducible assumption | refine .s ?_ ?_ | refine .m ?_ ?_ | refine .l ?_ ?_ | refine .d ?_ | refine .e ?_ | (simp <;> omega) | omega) _)) (by have := HL.out; omega)).mono ?_; rintro e w2 ⟨v2, rfl, hw2, hk2, hb2⟩; have f0 := (hk2 []).cell (b := p) (by first | (simp; done) | (simp; omega) | omega) HP.out.not 0; have f1 := fun o => (hk2 []).cell (b := w.heap.size) (by first | (simp; done) | (simp; omega) | omega) HF.out o))
    all_goals (rename_i hHeldZ; clear hHeldZ)
    all_goals
      go_wp2_with fail
      go_meet
      case rel => exact ⟨v2, hw2, fun ex' => (Kr.of_below (by repeat first | with_reducible exact .refl .. | with_reducible assumption | refine .s ?_ ?_ | refine .m ?_ ?_ | refine .l ?_ ?_ | refine .d ?_ | refine .e ?_ | (simp <;> omega) | omega) _).trans (hk2 ex'), ((show Below w.heap.size w _ from (by repeat first | with_reducible exact .refl .. | with_reducible assumption | refine .s ?_ ?_ | refine .m ?_ ?_ | refine .l ?_ ?_ | refine .d ?_ | refine .e ?_ | (simp <;> omega) | omega)).mono (Nat.le_of_lt HS.out.glt)).trans hb2⟩
  case rest =>
    obtain ⟨v1, hw1, hk1, hb1⟩ := hcut
    have y0 := ((hk1 []).cell (b := w.heap.size) hS1 HF.out 4).trans x0
    have y1 := ((hk1 []).cell (b := w.heap.size) hS1 HF.out 5).trans x1
    have y2 := ((hk1 []).cell (b := w.heap.size) hS1 HF.out 6).trans x2
    have y3 := ((hk1 []).cell (b := w.heap.size) hS1 HF.out 7).trans x3
    have y4 := ((hk1 []).cell (b := w.heap.size) hS1 HF.out 8).trans x4
    have y5 := ((hk1 []).cell (b := w.heap.size) hS1 HF.out 9).trans x5
    have y6 := ((hk1 []).cell (b := w.heap.size) hS1 HF.out 10).trans x6
    have y7 := ((hk1 []).cell (b := w.heap.size) hS1 HF.out 11).trans x7
    have pc := ((hk1 []).cell (b := p) (Nat.lt_trans hplt hS1) HP.out.not 0).trans hpc
    have hkw : ∀ ex, Kr w ([g] ++ (own v ++ ex)) wc ([g] ++ (own v1 ++ ex)) := fun ex => (Kr.of_below hB1 _).trans (hk1 ex)
    have HP1 := Lib.hid (HP.out.kr hkw)
    clear hk1 hpc b0 b1 b2 b3 x0 x1 x2 x3 x4 x5 x6 x7 HX
    go_wp2_with fail
    clear y0 y1 y2 y3 y4 y5 y6 y7
    go_loopw [13] (fun i wr => ∃ (k : Nat) (v' : Value), k ≤ 8 ∧ i = .int .i64 k ∧ WS wr base g v' (bs ++ ratB q ++ monB ([e0, e1, e2, e3, e4, e5, e6, e7].take k)) ∧ (∀ ex, Kr wc ([g] ++ (own v1 ++ ex)) wr ([g] ++ (own v' ++ ex))) ∧ Below g w wr) (fun i _ => 8 - (intOf i).toNat)
    case atStart => exact ⟨0, v1, Nat.zero_le _, rfl, by simpa [monB] using hw1, fun _ => Kr.refl _ _, hb1⟩
    case round =>
      obtain ⟨k, v', hk, rfl, hw, hkr, hb⟩ := hrel
      by_cases hlt : k < 8
      · have hidx := idx8 e0 e1 e2 e3 e4 e5 e6 e7 k hlt
        have hbe := HM.out k
        have hpc := (HP1.out.cell hkr 0).trans pc
        have HT := Lib.hid (show bs ++ ratB q ++ monB ([e0, e1, e2, e3, e4, e5, e6, e7].take (k + 1)) = bs ++ ratB q ++ monB ([e0, e1, e2, e3, e4, e5, e6, e7].take k) ++ natB ([e0, e1, e2, e3, e4, e5, e6, e7].getD k 0).toNat by
          rw [monB_take _ (by simpa using hlt)]; simp only [List.append_assoc])
        have hll : (bs ++ ratB q ++ monB ([e0, e1, e2, e3, e4, e5, e6, e7].take k) ++ natB ([e0, e1, e2, e3, e4, e5, e6, e7].getD k 0).toNat).length ≤ 10000000000 := by
          rw [← HT.out, List.length_append, List.length_append]
          have := monB_take_le [e0, e1, e2, e3, e4, e5, e6, e7] (k + 1)
          have := HL.out
          omega
        obtain ⟨x, hx⟩ : ∃ x : Int, [e0, e1, e2, e3, e4, e5, e6, e7].getD k 0 = x := ⟨_, rfl⟩
        rw [hx] at hidx hbe HT hll
        clear hx
        obtain ⟨y, rfl⟩ := Int.eq_ofNat_of_zero_le hbe.1
        rw [Int.toNat_natCast] at HT hll
        have hy : y ≤ 65535 := by have := hbe.2; omega
        have hi1 : (k : Int) < 8 := by omega
        rw [List.length_append] at hll
        have HC := Lib.hid (wnat_ok wr base g v' _ y hw (by omega) hll)
        clear hw hll hbe
        go_wp2_with fail
        refine HC.out.mono ?_; rintro e w2 ⟨v2, rfl, hw2, hk2, hb2⟩
        go_wp2_with fail
        go_roundw
        case rel => exact ⟨k + 1, v2, by omega, by go_num, by rw [HT.out]; exact hw2, fun ex' => (hkr ex').trans (hk2 ex'), hb.trans hb2⟩
        case measure => simp [intOf]; omega
      · obtain rfl : k = 8 := by omega
        go_wp2_with fail
        go_end0
        refine ⟨v', rfl, ?_, fun ex' => (hkw ex').trans (hkr ex'), hb⟩
        have e : bs ++ termB (q, [e0, e1, e2, e3, e4, e5, e6, e7]) = bs ++ ratB q ++ monB ([e0, e1, e2, e3, e4, e5, e6, e7].take 8) := by
          unfold termB; rw [List.append_assoc]; rfl
        rw [e]; exact hw

end Go.Proofs.YthhdleppkggepaaGreat

/-
  The walk of polynomial.Degree.
-/
namespace Go.Proofs.YthhdleppkggepaaGreat
open Go.RowKit Go.Deep
set_option maxRecDepth 100000

set_option maxHeartbeats 2000000 in
theorem pdegree_ok (w : World) (ex : List Nat) (A : Option Addr) (n c : Nat) (p : List (Rat × List Int)) (hx : RP w ex A n c p) (hp : PExps p) (hn : n ≤ 1000000000) :
    Calls Tryz.prog 46 #[.slice A n c] w (RetV w (.int .i64 (pdeg p))) := by
  have HL := Lib.hid hx.len
  have hcap := hx.cap
  have HS : Hid (∀ (k : Nat) (hk : k < p.length), 0 < n → 0 ≤ p[k].2.sum ∧ p[k].2.sum ≤ 524280) := by
    intro k hk h0
    obtain ⟨b, o, e, _, _, ht⟩ := hx.at_ h0
    obtain ⟨s1, A1, n1, c1, s2, A2, n2, c2, e0, e1, e2, e3, e4, e5, e6, e7, h0, h1, h2, h3, h4, h5, h6, h7, h8, h9, h10, h11, hq, hm⟩ := ht k hk
    exact sum_le8 (hp _ (List.getElem_mem hk)) (by rw [hm]; rfl)
  have HP := Lib.hid hp
  clear hp
  go_enter Tryz.func46, Tryz.ntmps46
  go_wp2_with fail
  go_loopw [3, 8] (fun d i wr => ∃ k : Nat, k ≤ n ∧ i = .int .i64 k ∧ d = .int .i64 (pdeg (p.take k)) ∧ Below w.heap.size w wr) (fun _ i _ => n - (intOf i).toNat)
  case atStart => exact ⟨0, Nat.zero_le _, rfl, rfl, Below.refl _ _⟩
  case round =>
    obtain ⟨k, hk, rfl, rfl, hb⟩ := hrel
    by_cases hlt : k < n
    · have hxw := hx.mono (Kr.of_below hb ex)
      obtain ⟨b, o, rfl, hbx, hbl, ht⟩ := hxw.at_ (by omega)
      have hkp : k < p.length := by have := HL.out; omega
      obtain ⟨s1, A1, n1, c1, s2, A2, n2, c2, e0, e1, e2, e3, e4, e5, e6, e7, h0, h1, h2, h3, h4, h5, h6, h7, h8, h9, h10, h11, hq, hm⟩ := ht k hkp
      have hE : Exps [e0, e1, e2, e3, e4, e5, e6, e7] := by rw [← hm]; exact HP.out _ (List.getElem_mem hkp)
      have hsb := HS.out k hkp (by omega)
      have hdb := pdeg_bound (p := p.take k) (by
        intro t htm
        obtain ⟨j, hj, rfl⟩ := List.getElem_of_mem htm
        rw [List.getElem_take]
        exact HS.out j (by simp at hj; omega) (by omega))
      have hst := pdeg_succ hkp
      rw [hm] at hsb hst
      have HM := Lib.hid hm
      clear hm ht
      obtain ⟨d, hd⟩ : ∃ d : Int, pdeg (p.take k) = d := ⟨_, rfl⟩
      rw [hd] at hdb hst
      rw [hd]
      clear hd
      have hsz := hb.size
      have HST := Lib.hid hst
      clear hst
      go_wp2_with fail
      refine (mdegree_ok _ _ _ _ _ _ _ _ _ hE).mono ?_; rintro e w1 ⟨X, D, rfl, rfl⟩
      obtain ⟨s, hs⟩ : ∃ s : Int, [e0, e1, e2, e3, e4, e5, e6, e7].sum = s := ⟨_, rfl⟩
      rw [hs] at hsb HST
      rw [hs]
      clear hs hE
      go_wp2_with fail
      all_goals
        go_roundw
        case rel =>
          refine ⟨k + 1, by omega, by go_num, ?_, (by repeat first | with_reducible exact .refl .. | with_reducible assumption | refine .s ?_ ?_ | refine .m ?_ ?_ | refine .l ?_ ?_ | refine .d ?_ | refine .e ?_ | (simp <;> omega) | omega)⟩
          rw [HST.out]
          congr 1
          omega
        case measure => simp [intOf]; omega
    · obtain rfl : k = n := by omega
      go_wp2_with fail
      go_ret
      refine RetV.mk ?_ hb
      rw [List.take_of_length_le (by have := HL.out; omega)]; rfl

end Go.Proofs.YthhdleppkggepaaGreat

/-
  Lists of polynomials; the walks of package system: which polynomials fit.
-/
namespace Go.Proofs.YthhdleppkggepaaGreat
open Go.RowKit Go.Deep
set_option maxRecDepth 100000

def poRd (w : World) (ex : List Nat) (p : List (Rat × List Int)) (vs : List Value) : Prop :=
  ∃ A n c, vs = [.slice A n c] ∧ RP w ex A n c p
theorem infoPoly : (Tryz.prog.info? 65).map (fun i => (i.zero, i.size, i.bytes)) = some (some (.slice none 0 0), 1, 24) := by kernel_rfl
def poE : Elt (List (Rat × List Int)) where
  ty := 65
  size := 1
  bytes := 24
  rd := poRd
  pos := by decide
  few := by decide
  mono := by
    rintro w w' ex ex' x vs k ⟨A, n, c, rfl, hq⟩
    exact ⟨A, n, c, rfl, hq.mono k⟩
  len := by
    rintro w ex x vs ⟨A, n, c, rfl, hq⟩
    rfl
  one := by
    rintro w ex x vs ⟨A, n, c, rfl, hq⟩ u hu
    simp only [List.mem_cons, List.not_mem_nil, or_false] at hu
    subst hu; rfl
  info := by
    obtain ⟨i, h1, h2, h3, h4⟩ := info_parts infoPoly
    exact ⟨i, _, h1, h2, h3, h4, rfl⟩
/-- A polynomial of moderate size. -/
structure GP (p : List (Rat × List Int)) : Prop where
  exps : PExps p
  ty : PTy p
  len : p.length ≤ 1000000
theorem RL.poly {w : World} {ex : List Nat} {b o n c : Nat} {l : List (List (Rat × List Int))} (h : RL poE w ex (some ⟨b, o, none⟩) n c l) {k : Nat} (hk : k < l.length) :
    ∃ A m c', w.cell? ⟨b, o + k, none⟩ = some (.slice A m c') ∧ RP w ex A m c' l[k] := by
  obtain ⟨b', o', e, _, _, ht⟩ := h.at_ (by rw [h.len]; omega)
  cases e
  obtain ⟨vs, ⟨A, m, c', rfl, hp⟩, hc⟩ := ht k hk
  refine ⟨A, m, c', ?_, hp⟩
  have := hc 0 _ rfl
  rwa [show o + k * poE.size + 0 = o + k from by show o + k * 1 + 0 = o + k; omega] at this
theorem RL.some_ {w : World} {ex : List Nat} {A : Option Addr} {n c : Nat} {l : List (List (Rat × List Int))} (h : RL poE w ex A n c l) (h0 : 0 < n) : ∃ b o, A = some ⟨b, o, none⟩ ∧ b ∉ ex ∧ b < w.heap.size := by
  obtain ⟨b', o', e, h1, h2, ht⟩ := h.at_ h0
  exact ⟨b', o', e, h1, h2⟩

def withinB (p : List (Rat × List Int)) (n : Nat) : Bool := validB p && decide (pdeg p ≤ 12) && decide (usesN p < 2 ^ n)
theorem shr_zero (u n : Nat) : ((u : Int) / (2 ^ n) == 0) = decide (u < 2 ^ n) := by
  have e : ((2 : Int) ^ n) = ((2 ^ n : Nat) : Int) := by simp
  rw [e]
  have hp : 0 < 2 ^ n := Nat.pow_pos (by decide)
  rw [Bool.eq_iff_iff]
  simp only [beq_iff_eq, decide_eq_true_eq]
  generalize 2 ^ n = y at hp
  rw [show ((u : Int) / (y : Int)) = ((u / y : Nat) : Int) from rfl]
  rw [show ((u / y : Nat) : Int) = 0 ↔ u / y = 0 from by omega, Nat.div_eq_zero_iff]
  omega

set_option maxHeartbeats 2000000 in
theorem within_ok (w : World) (ex : List Nat) (A : Option Addr) (m c : Nat) (p : List (Rat × List Int)) (n : Nat) (hx : RP w ex A m c p) (hg : GP p) (hn : n ≤ 4) :
    Calls Tryz.prog 44 #[.slice A m c, .int .i64 n] w (RetV w (.bool (withinB p n))) := by
  have hm : m ≤ 1000000000 := by rw [hx.len]; have := hg.len; omega
  have h1 := pvalid_ok w ex A m c p hx hg.exps hg.ty hm
  have HW : Hid (withinB p n = (validB p && decide (pdeg p ≤ 12) && decide (usesN p < 2 ^ n))) := rfl
  have HX := Lib.hid hx
  have HG := Lib.hid hg
  clear hx hg
  obtain ⟨v, hv⟩ : ∃ v, validB p = v := ⟨_, rfl⟩
  rw [hv] at h1 HW
  clear hv
  cases v
  · have HE : Hid (withinB p n = false) := Lib.hid (by rw [HW.out]; rfl)
    go_enter Tryz.func44, Tryz.ntmps44
    go_wp2_with fail
    refine h1.mono ?_; rintro e w1 ⟨X, D, rfl, rfl⟩
    go_wp2_with fail
    go_ret
    rw [HE.out]
    exact RetV.mk rfl (by repeat first | with_reducible exact .refl .. | with_reducible assumption | refine .s ?_ ?_ | refine .m ?_ ?_ | refine .l ?_ ?_ | refine .d ?_ | refine .e ?_ | (simp <;> omega) | omega)
  · obtain ⟨d, hd⟩ : ∃ d, pdeg p = d := ⟨_, rfl⟩
    have HD := Lib.hid hd
    rw [hd] at HW
    clear hd
    by_cases h12 : d ≤ 12
    · have HE : Hid (withinB p n = ((usesN p : Int) / (2 ^ n) == 0)) := Lib.hid (by rw [HW.out, shr_zero]; simp [h12])
      have hu8 : usesN p < 256 := usesN_lt (suppN_lt8 HX.out.len8)
      obtain ⟨u, hu⟩ : ∃ u, usesN p = u := ⟨_, rfl⟩
      have HU := Lib.hid hu
      rw [hu] at HE hu8
      clear hu
      obtain rfl | rfl | rfl | rfl | rfl : n = 0 ∨ n = 1 ∨ n = 2 ∨ n = 3 ∨ n = 4 := by omega
      all_goals
        go_enter Tryz.func44, Tryz.ntmps44
        go_wp2_with fail
        refine h1.mono ?_; rintro e w1 ⟨X, D, rfl, rfl⟩
        go_wp2_with fail
        refine (pdegree_ok _ ex A m c p (HX.out.mono (Kr.of_below (by repeat first | with_reducible exact .refl .. | with_reducible assumption | refine .s ?_ ?_ | refine .m ?_ ?_ | refine .l ?_ ?_ | refine .d ?_ | refine .e ?_ | (simp <;> omega) | omega) _)) HG.out.exps hm).mono ?_; rintro e w1 ⟨X2, D2, rfl, rfl⟩
        rw [HD.out]
        go_wp2_with fail
        refine (puses_ok _ ex A m c p (HX.out.mono (Kr.of_below (by repeat first | with_reducible exact .refl .. | with_reducible assumption | refine .s ?_ ?_ | refine .m ?_ ?_ | refine .l ?_ ?_ | refine .d ?_ | refine .e ?_ | (simp <;> omega) | omega) _)) HG.out.exps hm).mono ?_; rintro e w1 ⟨X3, D3, rfl, rfl⟩
        rw [HU.out]
        go_wp2_with fail
        go_ret
        rw [HE.out]
        exact RetV.mk (by simp) (by repeat first | with_reducible exact .refl .. | with_reducible assumption | refine .s ?_ ?_ | refine .m ?_ ?_ | refine .l ?_ ?_ | refine .d ?_ | refine .e ?_ | (simp <;> omega) | omega)
    · have HE : Hid (withinB p n = false) := Lib.hid (by rw [HW.out]; simp [h12])
      go_enter Tryz.func44, Tryz.ntmps44
      go_wp2_with fail
      refine h1.mono ?_; rintro e w1 ⟨X, D, rfl, rfl⟩
      go_wp2_with fail
      refine (pdegree_ok _ ex A m c p (HX.out.mono (Kr.of_below (by repeat first | with_reducible exact .refl .. | with_reducible assumption | refine .s ?_ ?_ | refine .m ?_ ?_ | refine .l ?_ ?_ | refine .d ?_ | refine .e ?_ | (simp <;> omega) | omega) _)) HG.out.exps hm).mono ?_; rintro e w1 ⟨X2, D2, rfl, rfl⟩
      rw [HD.out]
      go_wp2_with fail
      go_ret
      rw [HE.out]
      exact RetV.mk rfl (by repeat first | with_reducible exact .refl .. | with_reducible assumption | refine .s ?_ ?_ | refine .m ?_ ?_ | refine .l ?_ ?_ | refine .d ?_ | refine .e ?_ | (simp <;> omega) | omega)

end Go.Proofs.YthhdleppkggepaaGreat

/-
  The bytes that package claim writes: a polynomial.
-/
namespace Go.Proofs.YthhdleppkggepaaGreat
open Go.RowKit Go.Deep
set_option maxRecDepth 100000

theorem Apart.keep {w w' : World} {g : Nat} {v : Value} {p : Nat} (h : Apart w g v p) (hb : Below w.heap.size w w') : Apart w' g v p := ⟨Nat.lt_of_lt_of_le h.lt hb.size, h.ne, h.out⟩
def polB (p : List (Rat × List Int)) : List Nat := natB p.length ++ p.flatMap termB
theorem flat_take {α : Type} (f : α → List Nat) (l : List α) {k : Nat} (hk : k < l.length) : (l.take (k + 1)).flatMap f = (l.take k).flatMap f ++ f l[k] := by
  rw [List.take_succ_eq_append_getElem hk, List.flatMap_append]; simp
theorem flat_take_le {α : Type} (f : α → List Nat) (l : List α) (k : Nat) : ((l.take k).flatMap f).length ≤ (l.flatMap f).length := by
  conv => rhs; rw [← List.take_append_drop k l, List.flatMap_append, List.length_append]
  exact Nat.le_add_right _ _

set_option maxHeartbeats 4000000 in
theorem wputt_ok (w : World) (base g : Nat) (v : Value) (bs : List Nat) (ex : List Nat) (p : Nat) (A : Option Addr) (n c : Nat) (pol : List (Rat × List Int)) (hs : WS w base g v bs) (hx : RP w ([g] ++ (own v ++ ex)) A n c pol) (hm : PExps pol) (hp : Apart w g v p) (hc : w.cell? ⟨p, 0, none⟩ = some (.pointer (some ⟨g, 0, none⟩))) (hn : n ≤ 1000000000) (hl : bs.length + (polB pol).length ≤ 10000000000) :
    Calls Tryz.prog 225 #[.pointer (some ⟨g, 0, none⟩), .slice A n c, .func (Fn.func 226) #[] #[.pointer (some ⟨p, 0, none⟩)]] w (RetWr w base g v (bs ++ polB pol)) := by
  have HLn := Lib.hid hx.len
  have hcap := hx.cap
  have HX := Lib.hid hx
  have HM := Lib.hid hm
  have HP := Lib.hid hp
  have HL := Lib.hid (show bs.length + (natB n).length + (pol.flatMap termB).length ≤ 10000000000 by
    have e : (polB pol).length = (natB pol.length).length + (pol.flatMap termB).length := by unfold polB; rw [List.length_append]
    rw [HLn.out]; omega)
  have HC := Lib.hid (wnat_ok w base g v bs n hs (by omega) (by have := HL.out; omega))
  have HPo := Lib.hid (show bs ++ polB pol = bs ++ natB n ++ pol.flatMap termB by unfold polB; rw [HLn.out, List.append_assoc])
  clear hs hx hm hp hl
  go_enter Tryz.func225, Tryz.ntmps225
  go_wp2_with fail
  refine HC.out.mono ?_; rintro e w1 ⟨v1, rfl, hw1, hk1, hb1⟩
  go_wp2_with fail
  have HP1 := Lib.hid (HP.out.kr hk1)
  have HX1 := Lib.hid (HX.out.mono (hk1 ex))
  have hc1 := (HP.out.cell hk1 0).trans hc
  clear hc
  generalize hB1 : bs ++ natB n = B1 at *
  have HB1 := Lib.hid hB1
  clear hB1
  go_loopw [15] (fun i wr => ∃ (k : Nat) (v' : Value), k ≤ n ∧ i = .int .i64 k ∧ WS wr base g v' (B1 ++ (pol.take k).flatMap termB) ∧ (∀ ex, Kr w1 ([g] ++ (own v1 ++ ex)) wr ([g] ++ (own v' ++ ex))) ∧ Below g w wr) (fun i _ => n - (intOf i).toNat)
  case atStart => exact ⟨0, v1, Nat.zero_le _, rfl, by simpa using hw1, fun _ => Kr.refl _ _, hb1⟩
  case round =>
    obtain ⟨k, v', hk, rfl, hw, hkr, hb⟩ := hrel
    by_cases hlt : k < n
    · have hxw := HX1.out.mono (hkr ex)
      obtain ⟨b, o, rfl, hbx, hbl, ht⟩ := hxw.at_ (by omega)
      have hkl : k < pol.length := by rw [← HLn.out]; exact hlt
      obtain ⟨s1, A1, n1, c1, s2, A2, n2, c2, e0, e1, e2, e3, e4, e5, e6, e7, h0, h1, h2, h3, h4, h5, h6, h7, h8, h9, h10, h11, hq, hm⟩ := ht k hkl
      have hE : Exps [e0, e1, e2, e3, e4, e5, e6, e7] := by rw [← hm]; exact HM.out _ (List.getElem_mem hkl)
      have hT : (pol[k] : Rat × List Int) = (pol[k].1, [e0, e1, e2, e3, e4, e5, e6, e7]) := by rw [← hm]
      have hpc := (HP1.out.cell hkr 0).trans hc1
      have hap := HP1.out.kr hkr
      have HT := Lib.hid (show B1 ++ (pol.take (k + 1)).flatMap termB = B1 ++ (pol.take k).flatMap termB ++ termB (pol[k].1, [e0, e1, e2, e3, e4, e5, e6, e7]) by
        rw [flat_take _ _ hkl, ← List.append_assoc, ← hT])
      have hll : (B1 ++ (pol.take k).flatMap termB ++ termB (pol[k].1, [e0, e1, e2, e3, e4, e5, e6, e7])).length ≤ 10000000000 := by
        rw [← HT.out, List.length_append]
        have := flat_take_le termB pol (k + 1)
        have := HL.out
        have := congrArg List.length HB1.out
        rw [List.length_append] at this
        omega
      rw [List.length_append] at hll
      have hi1 : (k : Int) < (n : Int) := by omega
      clear ht hxw hT hm
      generalize pol[k].1 = qq at *
      go_wp2_with fail
      refine (wterm_ok _ base g v' _ ex p s1 A1 n1 c1 s2 A2 n2 c2 e0 e1 e2 e3 e4 e5 e6 e7 qq (hw.keep (by repeat first | with_reducible exact .refl .. | with_reducible assumption | refine .s ?_ ?_ | refine .m ?_ ?_ | refine .l ?_ ?_ | refine .d ?_ | refine .e ?_ | (simp <;> omega) | omega)) (hq.mono (Kr.of_below (by repeat first | with_reducible exact .refl .. | with_reducible assumption | refine .s ?_ ?_ | refine .m ?_ ?_ | refine .l ?_ ?_ | refine .d ?_ | refine .e ?_ | (simp <;> omega) | omega) _)) hE (hap.keep (by repeat first | with_reducible exact .refl .. | with_reducible assumption | refine .s ?_ ?_ | refine .m ?_ ?_ | refine .l ?_ ?_ | refine .d ?_ | refine .e ?_ | (simp <;> omega) | omega)) (((show Below wr.heap.size wr _ from (by repeat first | with_reducible exact .refl .. | with_reducible assumption | refine .s ?_ ?_ | refine .m ?_ ?_ | refine .l ?_ ?_ | refine .d ?_ | refine .e ?_ | (simp <;> omega) | omega)).at0 hap.lt 0).trans hpc) hll).mono ?_; rintro e w2 ⟨v2, rfl, hw2, hk2, hb2⟩
      have hbl2 : Below g w (wr.alloc (.cells #[.bool s1, .slice A1 n1 c1, .bool s2, .slice A2 n2 c2, .int .i64 e0, .int .i64 e1, .int .i64 e2, .int .i64 e3, .int .i64 e4, .int .i64 e5, .int .i64 e6, .int .i64 e7] 118)) := hb.trans ((show Below wr.heap.size wr _ from (by repeat first | with_reducible exact .refl .. | with_reducible assumption | refine .s ?_ ?_ | refine .m ?_ ?_ | refine .l ?_ ?_ | refine .d ?_ | refine .e ?_ | (simp <;> omega) | omega)).mono (Nat.le_of_lt hw.glt))
      have hkl2 : ∀ ex', Kr wr ([g] ++ (own v' ++ ex')) (wr.alloc (.cells #[.bool s1, .slice A1 n1 c1, .bool s2, .slice A2 n2 c2, .int .i64 e0, .int .i64 e1, .int .i64 e2, .int .i64 e3, .int .i64 e4, .int .i64 e5, .int .i64 e6, .int .i64 e7] 118)) ([g] ++ (own v' ++ ex')) := fun ex' => Kr.of_below (by repeat first | with_reducible exact .refl .. | with_reducible assumption | refine .s ?_ ?_ | refine .m ?_ ?_ | refine .l ?_ ?_ | refine .d ?_ | refine .e ?_ | (simp <;> omega) | omega) _
      go_wp2_with fail
      go_roundw
      case rel => exact ⟨k + 1, v2, by omega, by go_num, by rw [HT.out]; exact hw2, fun ex' => ((hkr ex').trans (hkl2 ex')).trans (hk2 ex'), hbl2.trans hb2⟩
      case measure => simp [intOf]; omega
    · obtain rfl : k = n := by omega
      go_wp2_with fail
      go_end0
      refine ⟨v', rfl, ?_, fun ex' => (hk1 ex').trans (hkr ex'), hb⟩
      rw [HPo.out, ← List.take_of_length_le (l := pol) (show pol.length ≤ k by rw [← HLn.out]; exact Nat.le_refl _)]
      exact hw

set_option maxHeartbeats 2000000 in
theorem wpoly_ok (w : World) (base g : Nat) (v : Value) (bs : List Nat) (ex : List Nat) (A : Option Addr) (n c : Nat) (pol : List (Rat × List Int)) (hs : WS w base g v bs) (hx : RP w ([g] ++ (own v ++ ex)) A n c pol) (hm : PExps pol) (hn : n ≤ 1000000000) (hl : bs.length + (polB pol).length ≤ 10000000000) :
    Calls Tryz.prog 196 #[.pointer (some ⟨g, 0, none⟩), .slice A n c] w (RetWr w base g v (bs ++ polB pol)) := by
  have hcap := hx.cap
  have HX := Lib.hid hx
  have HS := Lib.hid hs
  have HM := Lib.hid hm
  clear hx hs hm
  go_enter Tryz.func196, Tryz.ntmps196
  go_wp2_with fail
  refine (wputt_ok _ base g v bs ex w.heap.size A n c pol (HS.out.keep (by repeat first | with_reducible exact .refl .. | with_reducible assumption | refine .s ?_ ?_ | refine .m ?_ ?_ | refine .l ?_ ?_ | refine .d ?_ | refine .e ?_ | (simp <;> omega) | omega)) (HX.out.mono (Kr.of_below (by repeat first | with_reducible exact .refl .. | with_reducible assumption | refine .s ?_ ?_ | refine .m ?_ ?_ | refine .l ?_ ?_ | refine .d ?_ | refine .e ?_ | (simp <;> omega) | omega) _)) HM.out (Apart.new HS.out (Nat.le_refl _) (by simp)) (by simp [go_sem, ↓IntWalk.iteOmega]) hn hl).mono ?_; rintro e w1 ⟨v1, rfl, hw1, hk1, hb1⟩
  go_wp2_with fail
  go_end0
  exact ⟨v1, rfl, hw1, fun ex' => (Kr.of_below (by repeat first | with_reducible exact .refl .. | with_reducible assumption | refine .s ?_ ?_ | refine .m ?_ ?_ | refine .l ?_ ?_ | refine .d ?_ | refine .e ?_ | (simp <;> omega) | omega) _).trans (hk1 ex'), ((show Below w.heap.size w _ from (by repeat first | with_reducible exact .refl .. | with_reducible assumption | refine .s ?_ ?_ | refine .m ?_ ?_ | refine .l ?_ ?_ | refine .d ?_ | refine .e ?_ | (simp <;> omega) | omega)).mono (Nat.le_of_lt HS.out.glt)).trans hb1⟩

end Go.Proofs.YthhdleppkggepaaGreat

/-
  The bytes that package claim writes: lists of polynomials, a core.
-/
namespace Go.Proofs.YthhdleppkggepaaGreat
open Go.RowKit Go.Deep
set_option maxRecDepth 100000

def polsB (l : List (List (Rat × List Int))) : List Nat := natB l.length ++ l.flatMap polB
def coreB (n : Nat) (l1 l2 : List (List (Rat × List Int))) : List Nat := numB n ++ polsB l1 ++ polsB l2

set_option maxHeartbeats 4000000 in
theorem wputp_ok (w : World) (base g : Nat) (v : Value) (bs : List Nat) (ex : List Nat) (A : Option Addr) (n c : Nat) (l : List (List (Rat × List Int))) (hs : WS w base g v bs) (hx : RL poE w ([g] ++ (own v ++ ex)) A n c l) (hm : ∀ p ∈ l, GP p) (hn : n ≤ 1000000000) (hl : bs.length + (polsB l).length ≤ 10000000000) :
    Calls Tryz.prog 195 #[.pointer (some ⟨g, 0, none⟩), .slice A n c, .func (Fn.func 196) #[.pointer (some ⟨g, 0, none⟩)] #[]] w (RetWr w base g v (bs ++ polsB l)) := by
  have HLn := Lib.hid hx.len
  have hcap := hx.cap
  have HX := Lib.hid hx
  have HM := Lib.hid hm
  have HL := Lib.hid (show bs.length + (natB n).length + (l.flatMap polB).length ≤ 10000000000 by
    have e : (polsB l).length = (natB l.length).length + (l.flatMap polB).length := by unfold polsB; rw [List.length_append]
    rw [HLn.out]; omega)
  have HC := Lib.hid (wnat_ok w base g v bs n hs (by omega) (by have := HL.out; omega))
  have HPo := Lib.hid (show bs ++ polsB l = bs ++ natB n ++ l.flatMap polB by unfold polsB; rw [HLn.out, List.append_assoc])
  clear hs hx hm hl
  go_enter Tryz.func195, Tryz.ntmps195
  go_wp2_with fail
  refine HC.out.mono ?_; rintro e w1 ⟨v1, rfl, hw1, hk1, hb1⟩
  go_wp2_with fail
  have HX1 := Lib.hid (HX.out.mono (hk1 ex))
  generalize hB1 : bs ++ natB n = B1 at *
  have HB1 := Lib.hid hB1
  clear hB1
  go_loopw [15] (fun i wr => ∃ (k : Nat) (v' : Value), k ≤ n ∧ i = .int .i64 k ∧ WS wr base g v' (B1 ++ (l.take k).flatMap polB) ∧ (∀ ex, Kr w1 ([g] ++ (own v1 ++ ex)) wr ([g] ++ (own v' ++ ex))) ∧ Below g w wr) (fun i _ => n - (intOf i).toNat)
  case atStart => exact ⟨0, v1, Nat.zero_le _, rfl, by simpa using hw1, fun _ => Kr.refl _ _, hb1⟩
  case round =>
    obtain ⟨k, v', hk, rfl, hw, hkr, hb⟩ := hrel
    by_cases hlt : k < n
    · have hxw := HX1.out.mono (hkr ex)
      obtain ⟨b, o, rfl, hbx, hbl⟩ := hxw.some_ (by omega)
      have hkl : k < l.length := by rw [← HLn.out]; exact hlt
      obtain ⟨A3, m3, c3, hcell, hp3⟩ := hxw.poly hkl
      have hg3 := HM.out _ (List.getElem_mem hkl)
      have hm3 : m3 ≤ 1000000000 := by rw [hp3.len]; have := hg3.len; omega
      have HT := Lib.hid (show B1 ++ (l.take (k + 1)).flatMap polB = B1 ++ (l.take k).flatMap polB ++ polB l[k] by
        rw [flat_take _ _ hkl, ← List.append_assoc])
      have hll : (B1 ++ (l.take k).flatMap polB ++ polB l[k]).length ≤ 10000000000 := by
        rw [← HT.out, List.length_append]
        have := flat_take_le polB l (k + 1)
        have := HL.out
        have := congrArg List.length HB1.out
        rw [List.length_append] at this
        omega
      rw [List.length_append] at hll
      have hi1 : (k : Int) < (n : Int) := by omega
      have HC3 := Lib.hid (wpoly_ok wr base g v' _ ex A3 m3 c3 l[k] hw hp3 hg3.exps hm3 hll)
      clear hxw hll hp3 hg3
      go_wp2_with fail
      refine HC3.out.mono ?_; rintro e w2 ⟨v2, rfl, hw2, hk2, hb2⟩
      go_wp2_with fail
      go_roundw
      case rel => exact ⟨k + 1, v2, by omega, by go_num, by rw [HT.out]; exact hw2, fun ex' => (hkr ex').trans (hk2 ex'), hb.trans hb2⟩
      case measure => simp [intOf]; omega
    · obtain rfl : k = n := by omega
      go_wp2_with fail
      go_end0
      refine ⟨v', rfl, ?_, fun ex' => (hk1 ex').trans (hkr ex'), hb⟩
      rw [HPo.out, ← List.take_of_length_le (l := l) (show l.length ≤ k by rw [← HLn.out]; exact Nat.le_refl _)]
      exact hw

set_option maxHeartbeats 2000000 in
theorem wpolys_ok (w : World) (base g : Nat) (v : Value) (bs : List Nat) (ex : List Nat) (A : Option Addr) (n c : Nat) (l : List (List (Rat × List Int))) (hs : WS w base g v bs) (hx : RL poE w ([g] ++ (own v ++ ex)) A n c l) (hm : ∀ p ∈ l, GP p) (hn : n ≤ 1000000000) (hl : bs.length + (polsB l).length ≤ 10000000000) :
    Calls Tryz.prog 157 #[.pointer (some ⟨g, 0, none⟩), .slice A n c] w (RetWr w base g v (bs ++ polsB l)) := by
  have hcap := hx.cap
  have HC := Lib.hid (wputp_ok w base g v bs ex A n c l hs hx hm hn hl)
  clear hx hs hm hl
  go_enter Tryz.func157, Tryz.ntmps157
  go_wp2_with fail
  refine HC.out.mono ?_; rintro e w1 ⟨v1, rfl, hw1, hk1, hb1⟩
  go_wp2_with fail
  go_end0
  exact ⟨v1, rfl, hw1, hk1, hb1⟩

set_option maxHeartbeats 4000000 in
theorem wcore_ok (w : World) (base g : Nat) (v : Value) (bs : List Nat) (ex : List Nat) (N : Nat) (A1 : Option Addr) (n1 c1 : Nat) (A2 : Option Addr) (n2 c2 : Nat) (l1 l2 : List (List (Rat × List Int))) (hs : WS w base g v bs) (hx : RL poE w ([g] ++ (own v ++ ex)) A1 n1 c1 l1) (hy : RL poE w ([g] ++ (own v ++ ex)) A2 n2 c2 l2) (hm1 : ∀ p ∈ l1, GP p) (hm2 : ∀ p ∈ l2, GP p) (hN : N < 4294967296) (hn1 : n1 ≤ 1000000000) (hn2 : n2 ≤ 1000000000) (hl : bs.length + (coreB N l1 l2).length ≤ 10000000000) :
    Calls Tryz.prog 106 #[.pointer (some ⟨g, 0, none⟩), .agg #[.int .i64 N, .slice A1 n1 c1, .slice A2 n2 c2]] w (RetWr w base g v (bs ++ coreB N l1 l2)) := by
  have hcap1 := hx.cap
  have hcap2 := hy.cap
  have HX := Lib.hid hx
  have HY := Lib.hid hy
  have HS := Lib.hid hs
  have HM1 := Lib.hid hm1
  have HM2 := Lib.hid hm2
  have HF := Lib.hid (hs.far (Nat.le_refl _))
  have HL := Lib.hid (show bs.length + (numB N).length + (polsB l1).length + (polsB l2).length ≤ 10000000000 by
    unfold coreB at hl; rw [List.length_append, List.length_append] at hl; omega)
  clear hx hy hs hm1 hm2 hl
  go_enter Tryz.func106, Tryz.ntmps106
  go_wp2_with fail
  refine wp_abs (fun W1 => Below w.heap.size w W1 ∧ w.heap.size < W1.heap.size ∧ W1.cell? ⟨w.heap.size, 0, none⟩ = some (.int .i64 N) ∧ W1.cell? ⟨w.heap.size, 1, none⟩ = some (.slice A1 n1 c1) ∧ W1.cell? ⟨w.heap.size, 2, none⟩ = some (.slice A2 n2 c2))
    ⟨(by repeat first | with_reducible exact .refl .. | with_reducible assumption | refine .s ?_ ?_ | refine .m ?_ ?_ | refine .l ?_ ?_ | refine .d ?_ | refine .e ?_ | (simp <;> omega) | omega), by simp, by simp [go_sem, ↓IntWalk.iteOmega], by simp [go_sem, ↓IntWalk.iteOmega], by simp [go_sem, ↓IntWalk.iteOmega]⟩ ?_
  rintro W1 ⟨hB1, hS1, b0, b1, b2⟩
  go_cut [] (fun w' => ∃ v', WS w' base g v' (bs ++ numB N) ∧ (∀ ex, Kr W1 ([g] ++ (own v ++ ex)) w' ([g] ++ (own v' ++ ex))) ∧ Below g w w')
  case first =>
    go_region_held3 (fun w' => w'.cell? ⟨w.heap.size, 0, none⟩ = some (.int .i64 N))
      ((repeat' apply And.intro) <;> first | (simp [*, go_sem, ↓IntWalk.iteOmega]; done) | (refine got_of ?_; simp [*, go_sem, ↓IntWalk.iteOmega]; done))
      (first | (go_at_call 156; refine (wnumber_ok _ base g v bs N (HS.out.keep (by repeat first | with_reducible exact .refl .. | with_reducible assumption | refine .s ?_ ?_ | refine .m ?_ ?_ | refine .l ?_ ?_ | refine .d ?_ | refine .e ?_ | (simp <;> omega) | omega)) hN (by have := HL.out; omega)).mono ?_; rintro e w2 ⟨v2, rfl, hw2, hk2, hb2⟩; have f1 := fun o => (hk2 []).cell (b := w.heap.size) (by first | (simp; done) | (simp; omega) | omega) HF.out o))
    all_goals (rename_i hHeldZ; clear hHeldZ)
    all_goals
      go_wp2_with fail
      go_meet
      case rel => exact ⟨v2, hw2, fun ex' => (Kr.of_below (by repeat first | with_reducible exact .refl .. | with_reducible assumption | refine .s ?_ ?_ | refine .m ?_ ?_ | refine .l ?_ ?_ | refine .d ?_ | refine .e ?_ | (simp <;> omega) | omega) _).trans (hk2 ex'), ((show Below w.heap.size w _ from (by repeat first | with_reducible exact .refl .. | with_reducible assumption | refine .s ?_ ?_ | refine .m ?_ ?_ | refine .l ?_ ?_ | refine .d ?_ | refine .e ?_ | (simp <;> omega) | omega)).mono (Nat.le_of_lt HS.out.glt)).trans hb2⟩
  case rest =>
    obtain ⟨v1, hw1, hk1, hb1⟩ := hcut
    have d1 := ((hk1 []).cell (b := w.heap.size) hS1 HF.out 1).trans b1
    have d2 := ((hk1 []).cell (b := w.heap.size) hS1 HF.out 2).trans b2
    have hkw : ∀ ex, Kr w ([g] ++ (own v ++ ex)) wc ([g] ++ (own v1 ++ ex)) := fun ex => (Kr.of_below hB1 _).trans (hk1 ex)
    have hap : Apart wc g v1 w.heap.size := (Apart.new (w' := W1) HS.out (Nat.le_refl _) hS1).kr hk1
    have HC1 := Lib.hid (wpolys_ok wc base g v1 _ ex A1 n1 c1 l1 hw1 (HX.out.mono (hkw ex)) HM1.out hn1 (by rw [List.length_append]; have := HL.out; omega))
    clear b0 b1 b2
    go_wp2_with fail
    refine HC1.out.mono ?_; rintro e w2 ⟨v2, rfl, hw2, hk2, hb2⟩
    have d2' := (hap.cell hk2 2).trans d2
    have HC2 := Lib.hid (wpolys_ok w2 base g v2 _ ex A2 n2 c2 l2 hw2 (HY.out.mono ((hkw ex).trans (hk2 ex))) HM2.out hn2 (by rw [List.length_append, List.length_append]; have := HL.out; omega))
    clear d2 hap
    go_wp2_with fail
    refine HC2.out.mono ?_; rintro e w3 ⟨v3, rfl, hw3, hk3, hb3⟩
    go_wp2_with fail
    go_end0
    refine ⟨v3, rfl, ?_, fun ex' => ((hkw ex').trans (hk2 ex')).trans (hk3 ex'), (hb1.trans hb2).trans hb3⟩
    unfold coreB
    rw [← List.append_assoc, ← List.append_assoc]
    exact hw3

end Go.Proofs.YthhdleppkggepaaGreat
