/-
  The walk of the reference's sorted list of normal multiples.
-/
import Derived.Test.YthhdleppkggepaaGreatSb30
import Derived.Test.YthhdleppkggepaaGreatSm02
import Derived.Test.YthhdleppkggepaaGreatSm04

set_option linter.unusedSimpArgs false
set_option linter.unusedVariables false
set_option linter.unusedSectionVars false

namespace Go.Proofs.YthhdleppkggepaaGreat
open Go.RowKit Go.Deep
set_option maxRecDepth 100000

theorem insP_len (p : Pol) : ∀ l : List Pol, (insP p l).length ≤ l.length + 1
  | [] => Nat.le_refl _
  | q :: r => by
    have := insP_len p r
    unfold insP
    split
    · simp only [List.length_cons]; omega
    · split <;> simp only [List.length_cons] <;> omega
theorem sortD_len (m : List Pol) : (sortD m).length ≤ m.length := by
  have : ∀ (m out : List Pol), (m.foldl (fun out p => insP p out) out).length ≤ out.length + m.length := by
    intro m
    induction m with
    | nil => intro out; simp
    | cons p r ih =>
      intro out
      have h1 := ih (insP p out)
      have h2 := insP_len p out
      rw [List.foldl_cons, List.length_cons]; omega
  have := this m []
  unfold sortD; simpa using this
theorem sortedK_len (plain : Bool) (l : List Pol) : (sortedK plain l).length ≤ l.length := by
  unfold sortedK
  refine Nat.le_trans (sortD_len _) (Nat.le_trans (List.length_filter_le _ _) ?_)
  rw [List.length_map]; exact Nat.le_refl _
theorem RL.cutAny {w : World} {ex : List Nat} {b o n c : Nat} {l : List Pol} (h : RL poE w ex (some ⟨b, o, none⟩) n c l) {k : Nat} (hk : k ≤ n) {A : Option Addr} (hA : k < n → A = some ⟨b, o + k, none⟩) : RL poE w ex A (n - k) (c - k) (l.drop k) := by
  have h1 := h.cutFrom hk
  rcases Nat.lt_or_ge k n with h0 | h0
  · rw [hA h0]; exact (show o + k * poE.size = o + k from by show o + k * 1 = o + k; omega) ▸ h1
  · refine ⟨h1.len, h1.cap, fun h2 => absurd h2 (by omega)⟩

set_option maxHeartbeats 16000000 in
theorem sorted_ok (w : World) (ex : List Nat) (A : Option Addr) (n c : Nat) (l : List Pol) (plain : Bool) (hx : RL poE w ex A n c l) (hz : ∀ p ∈ l, ZP p) (hn : n ≤ 1000000) (hex : ∀ b ∈ ex, b < w.heap.size) :
    Calls Tryz.prog 52 #[.slice A n c, .bool plain] w (RetL poE w ex (sortedK plain l)) := by
  have HL := Lib.hid hx.len
  have hcap := hx.cap
  have HX := Lib.hid hx
  have HZ := Lib.hid hz
  clear hx hz
  go_enter Tryz.func52, Tryz.ntmps52
  go_wp2_with fail
  go_loopw [5, 6] (fun v i wr => ∃ (k b o c' : Nat), k ≤ n ∧ i = .int .i64 k ∧ v = .slice (some ⟨b, o, none⟩) (sortedK plain (l.take k)).length c' ∧ RL poE wr ex (some ⟨b, o, none⟩) (sortedK plain (l.take k)).length c' (sortedK plain (l.take k)) ∧ Below w.heap.size w wr) (fun _ i _ => n - (intOf i).toNat)
  case atStart => exact ⟨0, w.heap.size, 0, 0, Nat.zero_le _, rfl, rfl, RL.nil _ _ _ _, (by repeat first | with_reducible exact .refl .. | with_reducible assumption | refine .s ?_ ?_ | refine .m ?_ ?_ | refine .l ?_ ?_ | refine .d ?_ | refine .e ?_ | (simp <;> omega) | omega)⟩
  case round =>
    obtain ⟨k, b, o, c', hk, rfl, rfl, hout, hb⟩ := hrel
    have hsz := hb.size
    by_cases hlt : k < n
    · have hxw := HX.out.mono (Kr.of_below hb ex)
      have hkl : k < l.length := by rw [← HL.out]; exact hlt
      obtain ⟨b2, o2, rfl, hbx, hbl⟩ := hxw.some_ (by omega)
      obtain ⟨A1, m1, c1, hcell, hp1⟩ := hxw.poly hkl
      have HZk := Lib.hid (HZ.out _ (List.getElem_mem hkl))
      have HSK : Hid (keepB plain (normP l[k]) = false → sortedK plain (l.take (k + 1)) = sortedK plain (l.take k)) := Lib.hid (sortedK_skip hkl)
      have HSI : Hid (keepB plain (normP l[k]) = true → sortedK plain (l.take (k + 1)) = insP (normP l[k]) (sortedK plain (l.take k))) := Lib.hid (sortedK_ins hkl)
      have HLz : Hid (∀ q ∈ sortedK plain (l.take k), ZP q) := Lib.hid (fun q hq => by
        obtain ⟨p, hp, rfl⟩ := sortedK_mem (fun p hp => (HZ.out p hp).norm.l8) q hq
        exact (HZ.out p hp).norm)
      have hLk : (sortedK plain (l.take k)).length ≤ k := Nat.le_trans (sortedK_len _ _) (by rw [List.length_take]; omega)
      have HPz := Lib.hid HZk.out.norm
      obtain ⟨P, hP⟩ : ∃ P, normP l[k] = P := ⟨_, rfl⟩
      have HP := Lib.hid hP
      rw [hP] at HSK HSI HPz
      obtain ⟨L, hL⟩ : ∃ L, sortedK plain (l.take k) = L := ⟨_, rfl⟩
      rw [hL] at HSK HSI HLz hLk hout ⊢
      have hm1 : m1 ≤ 1000000000 := by rw [hp1.len]; have := HZk.out.few; omega
      have hi1 : (k : Int) < (n : Int) := by omega
      clear hxw hP hL hbx hbl
      go_wp2_with fail
      refine (r8normal_ok _ ex A1 m1 c1 l[k] hp1 HZk.out.exps HZk.out.ty HZk.out.nz HZk.out.ip hm1 (fun b hb => Nat.lt_of_lt_of_le (hex b hb) hsz)).mono ?_; rintro e w1 ⟨A2, m2, c2, X1, D1, rfl, rfl, h2⟩
      rw [HP.out] at h2
      go_wp2_with fail
      refine wp_abs (fun W0 => Below w.heap.size w W0 ∧ RL poE W0 ex (some ⟨b, o, none⟩) L.length c' L ∧ RP W0 ex A2 m2 c2 P) ⟨(by repeat first | with_reducible exact .refl .. | with_reducible assumption | refine .s ?_ ?_ | refine .m ?_ ?_ | refine .l ?_ ?_ | refine .d ?_ | refine .e ?_ | (simp <;> omega) | omega), hout.mono (Kr.of_below (by repeat first | with_reducible exact .refl .. | with_reducible assumption | refine .s ?_ ?_ | refine .m ?_ ?_ | refine .l ?_ ?_ | refine .d ?_ | refine .e ?_ | (simp <;> omega) | omega) _), h2⟩ ?_
      rintro W0 ⟨hB0, hout0, hP0⟩
      clear h2 hout hb hp1 hcell hm1 hsz
      go_loopw [8] (fun t8 wi => ∃ j : Nat, j ≤ L.length ∧ t8 = .int .i64 j ∧ Hid (∀ q ∈ L.take j, cmpP q P < 0) ∧ Below w.heap.size w wi ∧ RL poE wi ex (some ⟨b, o, none⟩) L.length c' L ∧ RP wi ex A2 m2 c2 P) (fun t8 _ => L.length - (intOf t8).toNat)
      case atStart => exact ⟨0, Nat.zero_le _, rfl, Lib.hid (by simp), hB0, hout0, hP0⟩
      case round =>
        clear hB0 hout0 hP0
        obtain ⟨j, hj, rfl, HJ, hbi, houti, hPi⟩ := hrel
        obtain ⟨wi, hwi⟩ : ∃ x, x = wr := ⟨_, rfl⟩
        subst hwi
        have hsi := hbi.size
        have HM2 := Lib.hid hPi.len
        have hm2 : m2 ≤ 1000000000 := by rw [HM2.out]; have := HPz.out.few; omega
        have hci := houti.cap
        by_cases hjl : j < L.length
        · obtain ⟨A3, m3, c3, hcell3, hp3⟩ := houti.poly hjl
          have hz3 := HLz.out _ (List.getElem_mem hjl)
          have hm3 : m3 ≤ 1000000000 := by rw [hp3.len]; have := hz3.few; omega
          have hi2 : (j : Int) < (L.length : Int) := by omega
          have HT3 := Lib.hid hz3.ty
          clear hz3
          obtain ⟨x, hx1⟩ : ∃ x, cmpP L[j] P = x := ⟨_, rfl⟩
          have HC := Lib.hid hx1
          clear hx1
          by_cases hc : x < 0
          · have HJ2 : Hid (∀ q ∈ L.take (j + 1), cmpP q P < 0) := Lib.hid (fun q hq => by
                rw [List.take_succ_eq_append_getElem hjl] at hq
                rcases List.mem_append.1 hq with hq | hq
                · exact HJ.out q hq
                · rw [List.mem_singleton.1 hq, HC.out]; exact hc)
            go_wp2_with fail
            refine (r6cmp_ok _ ex A3 m3 c3 L[j] A2 m2 c2 P (hp3.mono (Kr.of_below (by repeat first | with_reducible exact .refl .. | with_reducible assumption | refine .s ?_ ?_ | refine .m ?_ ?_ | refine .l ?_ ?_ | refine .d ?_ | refine .e ?_ | (simp <;> omega) | omega) _)) (hPi.mono (Kr.of_below (by repeat first | with_reducible exact .refl .. | with_reducible assumption | refine .s ?_ ?_ | refine .m ?_ ?_ | refine .l ?_ ?_ | refine .d ?_ | refine .e ?_ | (simp <;> omega) | omega) _)) HT3.out HPz.out.ty hm3 hm2).mono ?_; rintro e w2 ⟨X2, D2, rfl, rfl⟩
            rw [HC.out]
            go_wp2_with fail
            go_roundw
            case rel => exact ⟨j + 1, by omega, by go_num, HJ2, (by repeat first | with_reducible exact .refl .. | with_reducible assumption | refine .s ?_ ?_ | refine .m ?_ ?_ | refine .l ?_ ?_ | refine .d ?_ | refine .e ?_ | (simp <;> omega) | omega), houti.mono (Kr.of_below (by repeat first | with_reducible exact .refl .. | with_reducible assumption | refine .s ?_ ?_ | refine .m ?_ ?_ | refine .l ?_ ?_ | refine .d ?_ | refine .e ?_ | (simp <;> omega) | omega) _), hPi.mono (Kr.of_below (by repeat first | with_reducible exact .refl .. | with_reducible assumption | refine .s ?_ ?_ | refine .m ?_ ?_ | refine .l ?_ ?_ | refine .d ?_ | refine .e ?_ | (simp <;> omega) | omega) _)⟩
            case measure => simp [intOf]; omega
          · skip
            by_cases hPn : P = []
            · have HK := Lib.hid (HSK.out (by rw [hPn]; simp [keepB]))
              have hm0 : ((m2 : Int) == 0) = true := by rw [HM2.out, hPn]; rfl
              clear hPn
              go_wp2_with fail
              refine (r6cmp_ok _ ex A3 m3 c3 L[j] A2 m2 c2 P (hp3.mono (Kr.of_below (by repeat first | with_reducible exact .refl .. | with_reducible assumption | refine .s ?_ ?_ | refine .m ?_ ?_ | refine .l ?_ ?_ | refine .d ?_ | refine .e ?_ | (simp <;> omega) | omega) _)) (hPi.mono (Kr.of_below (by repeat first | with_reducible exact .refl .. | with_reducible assumption | refine .s ?_ ?_ | refine .m ?_ ?_ | refine .l ?_ ?_ | refine .d ?_ | refine .e ?_ | (simp <;> omega) | omega) _)) HT3.out HPz.out.ty hm3 hm2).mono ?_; rintro e w2 ⟨X2, D2, rfl, rfl⟩
              rw [HC.out]
              go_wp2_with fail
              go_roundw
              case rel => exact ⟨k + 1, b, o, c', by omega, by go_num, by rw [HK.out], by rw [HK.out]; exact houti.mono (Kr.of_below (by repeat first | with_reducible exact .refl .. | with_reducible assumption | refine .s ?_ ?_ | refine .m ?_ ?_ | refine .l ?_ ?_ | refine .d ?_ | refine .e ?_ | (simp <;> omega) | omega) _), (by repeat first | with_reducible exact .refl .. | with_reducible assumption | refine .s ?_ ?_ | refine .m ?_ ?_ | refine .l ?_ ?_ | refine .d ?_ | refine .e ?_ | (simp <;> omega) | omega)⟩
              case measure => simp [intOf]; omega
            · have hm0 : ((m2 : Int) == 0) = false := by
                have : m2 ≠ 0 := fun e => hPn (List.eq_nil_of_length_eq_zero (by rw [← HM2.out]; exact e))
                simpa using this
              have hPe : P.isEmpty = false := by rw [Bool.eq_false_iff]; exact fun h => hPn (List.isEmpty_iff.1 h)
              obtain ⟨d, hd⟩ : ∃ d, pdeg P = d := ⟨_, rfl⟩
              have HD := Lib.hid hd
              have HKP : Hid (keepB plain P = !(plain && decide (d = 0))) := Lib.hid (by unfold keepB; rw [hPe, hd]; rfl)
              clear hPn hd hPe
              cases plain
              · have HKT := Lib.hid (HSI.out (by rw [HKP.out]; rfl))
                by_cases hsm : L[j] = P
                · have HS := Lib.hid (decide_eq_true hsm)
                  have HK := Lib.hid (HKT.out.trans (insP_same HJ.out hjl hsm))
                  clear hsm
                  go_wp2_with fail
                  refine (r6cmp_ok _ ex A3 m3 c3 L[j] A2 m2 c2 P (hp3.mono (Kr.of_below (by repeat first | with_reducible exact .refl .. | with_reducible assumption | refine .s ?_ ?_ | refine .m ?_ ?_ | refine .l ?_ ?_ | refine .d ?_ | refine .e ?_ | (simp <;> omega) | omega) _)) (hPi.mono (Kr.of_below (by repeat first | with_reducible exact .refl .. | with_reducible assumption | refine .s ?_ ?_ | refine .m ?_ ?_ | refine .l ?_ ?_ | refine .d ?_ | refine .e ?_ | (simp <;> omega) | omega) _)) HT3.out HPz.out.ty hm3 hm2).mono ?_; rintro e w2 ⟨X2, D2, rfl, rfl⟩
                  rw [HC.out]
                  go_wp2_with fail
                  refine (r6same_ok _ ex A3 m3 c3 L[j] A2 m2 c2 P (hp3.mono (Kr.of_below (by repeat first | with_reducible exact .refl .. | with_reducible assumption | refine .s ?_ ?_ | refine .m ?_ ?_ | refine .l ?_ ?_ | refine .d ?_ | refine .e ?_ | (simp <;> omega) | omega) _)) (hPi.mono (Kr.of_below (by repeat first | with_reducible exact .refl .. | with_reducible assumption | refine .s ?_ ?_ | refine .m ?_ ?_ | refine .l ?_ ?_ | refine .d ?_ | refine .e ?_ | (simp <;> omega) | omega) _)) HT3.out hm3 hm2).mono ?_; rintro e w5 ⟨X5, D5, rfl, rfl⟩
                  rw [HS.out]
                  go_wp2_with fail
                  go_roundw
                  case rel => exact ⟨k + 1, b, o, c', by omega, by go_num, by rw [HK.out], by rw [HK.out]; exact houti.mono (Kr.of_below (by repeat first | with_reducible exact .refl .. | with_reducible assumption | refine .s ?_ ?_ | refine .m ?_ ?_ | refine .l ?_ ?_ | refine .d ?_ | refine .e ?_ | (simp <;> omega) | omega) _), (by repeat first | with_reducible exact .refl .. | with_reducible assumption | refine .s ?_ ?_ | refine .m ?_ ?_ | refine .l ?_ ?_ | refine .d ?_ | refine .e ?_ | (simp <;> omega) | omega)⟩
                  case measure => simp [intOf]; omega
                · have HS := Lib.hid (decide_eq_false hsm)
                  have HIN := Lib.hid (HKT.out.trans (insP_at HJ.out (fun _ => by
                    have h0 : cmpP L[j] P ≠ 0 := fun e => hsm (cmpP_zero (HLz.out _ (List.getElem_mem hjl)).l8 HPz.out.l8 e)
                    have h1 := HC.out
                    omega)))
                  have HLN := Lib.hid (show (sortedK _ (l.take (k + 1))).length = j + (1 + (L.length - j)) by rw [HIN.out]; simp only [List.length_append, List.length_cons, List.length_take, List.length_drop]; omega)
                  clear hsm
                  go_wp2_with fail
                  refine (r6cmp_ok _ ex A3 m3 c3 L[j] A2 m2 c2 P (hp3.mono (Kr.of_below (by repeat first | with_reducible exact .refl .. | with_reducible assumption | refine .s ?_ ?_ | refine .m ?_ ?_ | refine .l ?_ ?_ | refine .d ?_ | refine .e ?_ | (simp <;> omega) | omega) _)) (hPi.mono (Kr.of_below (by repeat first | with_reducible exact .refl .. | with_reducible assumption | refine .s ?_ ?_ | refine .m ?_ ?_ | refine .l ?_ ?_ | refine .d ?_ | refine .e ?_ | (simp <;> omega) | omega) _)) HT3.out HPz.out.ty hm3 hm2).mono ?_; rintro e w2 ⟨X2, D2, rfl, rfl⟩
                  rw [HC.out]
                  go_wp2_with fail
                  refine (r6same_ok _ ex A3 m3 c3 L[j] A2 m2 c2 P (hp3.mono (Kr.of_below (by repeat first | with_reducible exact .refl .. | with_reducible assumption | refine .s ?_ ?_ | refine .m ?_ ?_ | refine .l ?_ ?_ | refine .d ?_ | refine .e ?_ | (simp <;> omega) | omega) _)) (hPi.mono (Kr.of_below (by repeat first | with_reducible exact .refl .. | with_reducible assumption | refine .s ?_ ?_ | refine .m ?_ ?_ | refine .l ?_ ?_ | refine .d ?_ | refine .e ?_ | (simp <;> omega) | omega) _)) HT3.out hm3 hm2).mono ?_; rintro e w5 ⟨X5, D5, rfl, rfl⟩
                  rw [HS.out]
                  have hn1 : 1 + (L.length - j) ≤ 100000000000 := by omega
                  have hcj : ¬ c' = j := by omega
                  have hn2 : j + (1 + (L.length - j)) ≤ 100000000000 := by omega
                  have hexi : ∀ b ∈ ex, b < wi.heap.size := fun b hb => Nat.lt_of_lt_of_le (hex b hb) hsi
                  go_wp2_with (at_builtin; first
                    | (refine wpList_append_full poE _ rfl _ _ 25 rfl Tryz.underlying25 ex _ 0 1 [P] rfl (rl1 (fun hh => absurd (hexi _ hh) (by simp; try omega)) (by first | (simp; done) | (simp; omega) | omega) (by simp [go_sem, ↓IntWalk.iteOmega]) (hPi.mono (Kr.of_below (by repeat first | with_reducible exact .refl .. | with_reducible assumption | refine .s ?_ ?_ | refine .m ?_ ?_ | refine .l ?_ ?_ | refine .d ?_ | refine .e ?_ | (simp <;> omega) | omega) _))) _ _ _ (L.drop j) rfl (RL.cutAny (houti.mono (Kr.of_below (by repeat first | with_reducible exact .refl .. | with_reducible assumption | refine .s ?_ ?_ | refine .m ?_ ?_ | refine .l ?_ ?_ | refine .d ?_ | refine .e ?_ | (simp <;> omega) | omega) _)) hj (by intro hh; simp [go_sem, ↓IntWalk.iteOmega]; try omega)) hn1 (fun b hb => Nat.lt_of_lt_of_le (hexi b hb) (by first | (simp; done) | (simp; omega) | omega)) ?_; intro b3 o3 c3 w3 hr3 hb3; have hB3 : Below wi.heap.size wi w3 := (show Below wi.heap.size wi _ from (by repeat first | with_reducible exact .refl .. | with_reducible assumption | refine .s ?_ ?_ | refine .m ?_ ?_ | refine .l ?_ ?_ | refine .d ?_ | refine .e ?_ | (simp <;> omega) | omega)).trans (hb3.mono (by first | (simp; done) | (simp; omega) | omega)))
                    | (refine wpList_append_full poE _ rfl _ _ 25 rfl Tryz.underlying25 ex b o j (L.take j) rfl (RL.cutTo (houti.mono (Kr.of_below hB3 _)) hj) _ _ _ ([P] ++ L.drop j) rfl hr3 hn2 (fun b hb => Nat.lt_of_lt_of_le (hexi b hb) hB3.size) ?_; intro b4 o4 c4 w4 hr4 hb4; have hB4 : Below wi.heap.size wi w4 := hB3.trans (hb4.mono hB3.size)))
                  all_goals
                    go_wp2_with fail
                    go_roundw
                    case rel => exact ⟨k + 1, b4, o4, c4, by omega, by go_num, by rw [HLN.out], by rw [HLN.out, HIN.out]; exact hr4, hbi.trans (hB4.mono hsi)⟩
                    case measure => simp [intOf]; omega
              · by_cases hd0 : d = 0
                · subst hd0
                  have HK := Lib.hid (HSK.out (by rw [HKP.out]; rfl))
                  go_wp2_with fail
                  refine (r6cmp_ok _ ex A3 m3 c3 L[j] A2 m2 c2 P (hp3.mono (Kr.of_below (by repeat first | with_reducible exact .refl .. | with_reducible assumption | refine .s ?_ ?_ | refine .m ?_ ?_ | refine .l ?_ ?_ | refine .d ?_ | refine .e ?_ | (simp <;> omega) | omega) _)) (hPi.mono (Kr.of_below (by repeat first | with_reducible exact .refl .. | with_reducible assumption | refine .s ?_ ?_ | refine .m ?_ ?_ | refine .l ?_ ?_ | refine .d ?_ | refine .e ?_ | (simp <;> omega) | omega) _)) HT3.out HPz.out.ty hm3 hm2).mono ?_; rintro e w2 ⟨X2, D2, rfl, rfl⟩
                  rw [HC.out]
                  go_wp2_with fail
                  refine (r6degree_ok _ ex A2 m2 c2 P (hPi.mono (Kr.of_below (by repeat first | with_reducible exact .refl .. | with_reducible assumption | refine .s ?_ ?_ | refine .m ?_ ?_ | refine .l ?_ ?_ | refine .d ?_ | refine .e ?_ | (simp <;> omega) | omega) _)) HPz.out.exps hm2).mono ?_; rintro e w4 ⟨X4, D4, rfl, rfl⟩
                  rw [HD.out]
                  go_wp2_with fail
                  go_roundw
                  case rel => exact ⟨k + 1, b, o, c', by omega, by go_num, by rw [HK.out], by rw [HK.out]; exact houti.mono (Kr.of_below (by repeat first | with_reducible exact .refl .. | with_reducible assumption | refine .s ?_ ?_ | refine .m ?_ ?_ | refine .l ?_ ?_ | refine .d ?_ | refine .e ?_ | (simp <;> omega) | omega) _), (by repeat first | with_reducible exact .refl .. | with_reducible assumption | refine .s ?_ ?_ | refine .m ?_ ?_ | refine .l ?_ ?_ | refine .d ?_ | refine .e ?_ | (simp <;> omega) | omega)⟩
                  case measure => simp [intOf]; omega
                · have hdf : (d == 0) = false := by simpa using hd0
                  have HKT := Lib.hid (HSI.out (by rw [HKP.out]; simp [hd0]))
                  clear hd0
                  by_cases hsm : L[j] = P
                  · have HS := Lib.hid (decide_eq_true hsm)
                    have HK := Lib.hid (HKT.out.trans (insP_same HJ.out hjl hsm))
                    clear hsm
                    go_wp2_with fail
                    refine (r6cmp_ok _ ex A3 m3 c3 L[j] A2 m2 c2 P (hp3.mono (Kr.of_below (by repeat first | with_reducible exact .refl .. | with_reducible assumption | refine .s ?_ ?_ | refine .m ?_ ?_ | refine .l ?_ ?_ | refine .d ?_ | refine .e ?_ | (simp <;> omega) | omega) _)) (hPi.mono (Kr.of_below (by repeat first | with_reducible exact .refl .. | with_reducible assumption | refine .s ?_ ?_ | refine .m ?_ ?_ | refine .l ?_ ?_ | refine .d ?_ | refine .e ?_ | (simp <;> omega) | omega) _)) HT3.out HPz.out.ty hm3 hm2).mono ?_; rintro e w2 ⟨X2, D2, rfl, rfl⟩
                    rw [HC.out]
                    go_wp2_with fail
                    refine (r6degree_ok _ ex A2 m2 c2 P (hPi.mono (Kr.of_below (by repeat first | with_reducible exact .refl .. | with_reducible assumption | refine .s ?_ ?_ | refine .m ?_ ?_ | refine .l ?_ ?_ | refine .d ?_ | refine .e ?_ | (simp <;> omega) | omega) _)) HPz.out.exps hm2).mono ?_; rintro e w4 ⟨X4, D4, rfl, rfl⟩
                    rw [HD.out]
                    go_wp2_with fail
                    refine (r6same_ok _ ex A3 m3 c3 L[j] A2 m2 c2 P (hp3.mono (Kr.of_below (by repeat first | with_reducible exact .refl .. | with_reducible assumption | refine .s ?_ ?_ | refine .m ?_ ?_ | refine .l ?_ ?_ | refine .d ?_ | refine .e ?_ | (simp <;> omega) | omega) _)) (hPi.mono (Kr.of_below (by repeat first | with_reducible exact .refl .. | with_reducible assumption | refine .s ?_ ?_ | refine .m ?_ ?_ | refine .l ?_ ?_ | refine .d ?_ | refine .e ?_ | (simp <;> omega) | omega) _)) HT3.out hm3 hm2).mono ?_; rintro e w5 ⟨X5, D5, rfl, rfl⟩
                    rw [HS.out]
                    go_wp2_with fail
                    go_roundw
                    case rel => exact ⟨k + 1, b, o, c', by omega, by go_num, by rw [HK.out], by rw [HK.out]; exact houti.mono (Kr.of_below (by repeat first | with_reducible exact .refl .. | with_reducible assumption | refine .s ?_ ?_ | refine .m ?_ ?_ | refine .l ?_ ?_ | refine .d ?_ | refine .e ?_ | (simp <;> omega) | omega) _), (by repeat first | with_reducible exact .refl .. | with_reducible assumption | refine .s ?_ ?_ | refine .m ?_ ?_ | refine .l ?_ ?_ | refine .d ?_ | refine .e ?_ | (simp <;> omega) | omega)⟩
                    case measure => simp [intOf]; omega
                  · have HS := Lib.hid (decide_eq_false hsm)
                    have HIN := Lib.hid (HKT.out.trans (insP_at HJ.out (fun _ => by
                      have h0 : cmpP L[j] P ≠ 0 := fun e => hsm (cmpP_zero (HLz.out _ (List.getElem_mem hjl)).l8 HPz.out.l8 e)
                      have h1 := HC.out
                      omega)))
                    have HLN := Lib.hid (show (sortedK _ (l.take (k + 1))).length = j + (1 + (L.length - j)) by rw [HIN.out]; simp only [List.length_append, List.length_cons, List.length_take, List.length_drop]; omega)
                    clear hsm
                    go_wp2_with fail
                    refine (r6cmp_ok _ ex A3 m3 c3 L[j] A2 m2 c2 P (hp3.mono (Kr.of_below (by repeat first | with_reducible exact .refl .. | with_reducible assumption | refine .s ?_ ?_ | refine .m ?_ ?_ | refine .l ?_ ?_ | refine .d ?_ | refine .e ?_ | (simp <;> omega) | omega) _)) (hPi.mono (Kr.of_below (by repeat first | with_reducible exact .refl .. | with_reducible assumption | refine .s ?_ ?_ | refine .m ?_ ?_ | refine .l ?_ ?_ | refine .d ?_ | refine .e ?_ | (simp <;> omega) | omega) _)) HT3.out HPz.out.ty hm3 hm2).mono ?_; rintro e w2 ⟨X2, D2, rfl, rfl⟩
                    rw [HC.out]
                    go_wp2_with fail
                    refine (r6degree_ok _ ex A2 m2 c2 P (hPi.mono (Kr.of_below (by repeat first | with_reducible exact .refl .. | with_reducible assumption | refine .s ?_ ?_ | refine .m ?_ ?_ | refine .l ?_ ?_ | refine .d ?_ | refine .e ?_ | (simp <;> omega) | omega) _)) HPz.out.exps hm2).mono ?_; rintro e w4 ⟨X4, D4, rfl, rfl⟩
                    rw [HD.out]
                    go_wp2_with fail
                    refine (r6same_ok _ ex A3 m3 c3 L[j] A2 m2 c2 P (hp3.mono (Kr.of_below (by repeat first | with_reducible exact .refl .. | with_reducible assumption | refine .s ?_ ?_ | refine .m ?_ ?_ | refine .l ?_ ?_ | refine .d ?_ | refine .e ?_ | (simp <;> omega) | omega) _)) (hPi.mono (Kr.of_below (by repeat first | with_reducible exact .refl .. | with_reducible assumption | refine .s ?_ ?_ | refine .m ?_ ?_ | refine .l ?_ ?_ | refine .d ?_ | refine .e ?_ | (simp <;> omega) | omega) _)) HT3.out hm3 hm2).mono ?_; rintro e w5 ⟨X5, D5, rfl, rfl⟩
                    rw [HS.out]
                    have hn1 : 1 + (L.length - j) ≤ 100000000000 := by omega
                    have hcj : ¬ c' = j := by omega
                    have hn2 : j + (1 + (L.length - j)) ≤ 100000000000 := by omega
                    have hexi : ∀ b ∈ ex, b < wi.heap.size := fun b hb => Nat.lt_of_lt_of_le (hex b hb) hsi
                    go_wp2_with (at_builtin; first
                      | (refine wpList_append_full poE _ rfl _ _ 25 rfl Tryz.underlying25 ex _ 0 1 [P] rfl (rl1 (fun hh => absurd (hexi _ hh) (by simp; try omega)) (by first | (simp; done) | (simp; omega) | omega) (by simp [go_sem, ↓IntWalk.iteOmega]) (hPi.mono (Kr.of_below (by repeat first | with_reducible exact .refl .. | with_reducible assumption | refine .s ?_ ?_ | refine .m ?_ ?_ | refine .l ?_ ?_ | refine .d ?_ | refine .e ?_ | (simp <;> omega) | omega) _))) _ _ _ (L.drop j) rfl (RL.cutAny (houti.mono (Kr.of_below (by repeat first | with_reducible exact .refl .. | with_reducible assumption | refine .s ?_ ?_ | refine .m ?_ ?_ | refine .l ?_ ?_ | refine .d ?_ | refine .e ?_ | (simp <;> omega) | omega) _)) hj (by intro hh; simp [go_sem, ↓IntWalk.iteOmega]; try omega)) hn1 (fun b hb => Nat.lt_of_lt_of_le (hexi b hb) (by first | (simp; done) | (simp; omega) | omega)) ?_; intro b3 o3 c3 w3 hr3 hb3; have hB3 : Below wi.heap.size wi w3 := (show Below wi.heap.size wi _ from (by repeat first | with_reducible exact .refl .. | with_reducible assumption | refine .s ?_ ?_ | refine .m ?_ ?_ | refine .l ?_ ?_ | refine .d ?_ | refine .e ?_ | (simp <;> omega) | omega)).trans (hb3.mono (by first | (simp; done) | (simp; omega) | omega)))
                      | (refine wpList_append_full poE _ rfl _ _ 25 rfl Tryz.underlying25 ex b o j (L.take j) rfl (RL.cutTo (houti.mono (Kr.of_below hB3 _)) hj) _ _ _ ([P] ++ L.drop j) rfl hr3 hn2 (fun b hb => Nat.lt_of_lt_of_le (hexi b hb) hB3.size) ?_; intro b4 o4 c4 w4 hr4 hb4; have hB4 : Below wi.heap.size wi w4 := hB3.trans (hb4.mono hB3.size)))
                    all_goals
                      go_wp2_with fail
                      go_roundw
                      case rel => exact ⟨k + 1, b4, o4, c4, by omega, by go_num, by rw [HLN.out], by rw [HLN.out, HIN.out]; exact hr4, hbi.trans (hB4.mono hsi)⟩
                      case measure => simp [intOf]; omega
        · skip
          by_cases hPn : P = []
          · have HK := Lib.hid (HSK.out (by rw [hPn]; simp [keepB]))
            have hm0 : ((m2 : Int) == 0) = true := by rw [HM2.out, hPn]; rfl
            clear hPn
            go_wp2_with fail
            go_roundw
            case rel => exact ⟨k + 1, b, o, c', by omega, by go_num, by rw [HK.out], by rw [HK.out]; exact houti.mono (Kr.of_below (by repeat first | with_reducible exact .refl .. | with_reducible assumption | refine .s ?_ ?_ | refine .m ?_ ?_ | refine .l ?_ ?_ | refine .d ?_ | refine .e ?_ | (simp <;> omega) | omega) _), (by repeat first | with_reducible exact .refl .. | with_reducible assumption | refine .s ?_ ?_ | refine .m ?_ ?_ | refine .l ?_ ?_ | refine .d ?_ | refine .e ?_ | (simp <;> omega) | omega)⟩
            case measure => simp [intOf]; omega
          · have hm0 : ((m2 : Int) == 0) = false := by
              have : m2 ≠ 0 := fun e => hPn (List.eq_nil_of_length_eq_zero (by rw [← HM2.out]; exact e))
              simpa using this
            have hPe : P.isEmpty = false := by rw [Bool.eq_false_iff]; exact fun h => hPn (List.isEmpty_iff.1 h)
            obtain ⟨d, hd⟩ : ∃ d, pdeg P = d := ⟨_, rfl⟩
            have HD := Lib.hid hd
            have HKP : Hid (keepB plain P = !(plain && decide (d = 0))) := Lib.hid (by unfold keepB; rw [hPe, hd]; rfl)
            clear hPn hd hPe
            cases plain
            · have HKT := Lib.hid (HSI.out (by rw [HKP.out]; rfl))
              have HIN := Lib.hid (HKT.out.trans (insP_at HJ.out (fun h => absurd h hjl)))
              have HLN := Lib.hid (show (sortedK _ (l.take (k + 1))).length = j + (1 + (L.length - j)) by rw [HIN.out]; simp only [List.length_append, List.length_cons, List.length_take, List.length_drop]; omega)
              have hn1 : 1 + (L.length - j) ≤ 100000000000 := by omega
              have hn2 : j + (1 + (L.length - j)) ≤ 100000000000 := by omega
              have hexi : ∀ b ∈ ex, b < wi.heap.size := fun b hb => Nat.lt_of_lt_of_le (hex b hb) hsi
              go_wp2_with (at_builtin; first
                | (refine wpList_append_full poE _ rfl _ _ 25 rfl Tryz.underlying25 ex _ 0 1 [P] rfl (rl1 (fun hh => absurd (hexi _ hh) (by simp; try omega)) (by first | (simp; done) | (simp; omega) | omega) (by simp [go_sem, ↓IntWalk.iteOmega]) (hPi.mono (Kr.of_below (by repeat first | with_reducible exact .refl .. | with_reducible assumption | refine .s ?_ ?_ | refine .m ?_ ?_ | refine .l ?_ ?_ | refine .d ?_ | refine .e ?_ | (simp <;> omega) | omega) _))) _ _ _ (L.drop j) rfl (RL.cutAny (houti.mono (Kr.of_below (by repeat first | with_reducible exact .refl .. | with_reducible assumption | refine .s ?_ ?_ | refine .m ?_ ?_ | refine .l ?_ ?_ | refine .d ?_ | refine .e ?_ | (simp <;> omega) | omega) _)) hj (by intro hh; simp [go_sem, ↓IntWalk.iteOmega]; try omega)) hn1 (fun b hb => Nat.lt_of_lt_of_le (hexi b hb) (by first | (simp; done) | (simp; omega) | omega)) ?_; intro b3 o3 c3 w3 hr3 hb3; have hB3 : Below wi.heap.size wi w3 := (show Below wi.heap.size wi _ from (by repeat first | with_reducible exact .refl .. | with_reducible assumption | refine .s ?_ ?_ | refine .m ?_ ?_ | refine .l ?_ ?_ | refine .d ?_ | refine .e ?_ | (simp <;> omega) | omega)).trans (hb3.mono (by first | (simp; done) | (simp; omega) | omega)))
                | (refine wpList_append_full poE _ rfl _ _ 25 rfl Tryz.underlying25 ex b o j (L.take j) rfl (RL.cutTo (houti.mono (Kr.of_below hB3 _)) hj) _ _ _ ([P] ++ L.drop j) rfl hr3 hn2 (fun b hb => Nat.lt_of_lt_of_le (hexi b hb) hB3.size) ?_; intro b4 o4 c4 w4 hr4 hb4; have hB4 : Below wi.heap.size wi w4 := hB3.trans (hb4.mono hB3.size)))
              all_goals
                go_wp2_with fail
                go_roundw
                case rel => exact ⟨k + 1, b4, o4, c4, by omega, by go_num, by rw [HLN.out], by rw [HLN.out, HIN.out]; exact hr4, hbi.trans (hB4.mono hsi)⟩
                case measure => simp [intOf]; omega
            · by_cases hd0 : d = 0
              · subst hd0
                have HK := Lib.hid (HSK.out (by rw [HKP.out]; rfl))
                go_wp2_with fail
                refine (r6degree_ok _ ex A2 m2 c2 P (hPi.mono (Kr.of_below (by repeat first | with_reducible exact .refl .. | with_reducible assumption | refine .s ?_ ?_ | refine .m ?_ ?_ | refine .l ?_ ?_ | refine .d ?_ | refine .e ?_ | (simp <;> omega) | omega) _)) HPz.out.exps hm2).mono ?_; rintro e w4 ⟨X4, D4, rfl, rfl⟩
                rw [HD.out]
                go_wp2_with fail
                go_roundw
                case rel => exact ⟨k + 1, b, o, c', by omega, by go_num, by rw [HK.out], by rw [HK.out]; exact houti.mono (Kr.of_below (by repeat first | with_reducible exact .refl .. | with_reducible assumption | refine .s ?_ ?_ | refine .m ?_ ?_ | refine .l ?_ ?_ | refine .d ?_ | refine .e ?_ | (simp <;> omega) | omega) _), (by repeat first | with_reducible exact .refl .. | with_reducible assumption | refine .s ?_ ?_ | refine .m ?_ ?_ | refine .l ?_ ?_ | refine .d ?_ | refine .e ?_ | (simp <;> omega) | omega)⟩
                case measure => simp [intOf]; omega
              · have hdf : (d == 0) = false := by simpa using hd0
                have HKT := Lib.hid (HSI.out (by rw [HKP.out]; simp [hd0]))
                clear hd0
                have HIN := Lib.hid (HKT.out.trans (insP_at HJ.out (fun h => absurd h hjl)))
                have HLN := Lib.hid (show (sortedK _ (l.take (k + 1))).length = j + (1 + (L.length - j)) by rw [HIN.out]; simp only [List.length_append, List.length_cons, List.length_take, List.length_drop]; omega)
                go_wp2_with fail
                refine (r6degree_ok _ ex A2 m2 c2 P (hPi.mono (Kr.of_below (by repeat first | with_reducible exact .refl .. | with_reducible assumption | refine .s ?_ ?_ | refine .m ?_ ?_ | refine .l ?_ ?_ | refine .d ?_ | refine .e ?_ | (simp <;> omega) | omega) _)) HPz.out.exps hm2).mono ?_; rintro e w4 ⟨X4, D4, rfl, rfl⟩
                rw [HD.out]
                have hn1 : 1 + (L.length - j) ≤ 100000000000 := by omega
                have hn2 : j + (1 + (L.length - j)) ≤ 100000000000 := by omega
                have hexi : ∀ b ∈ ex, b < wi.heap.size := fun b hb => Nat.lt_of_lt_of_le (hex b hb) hsi
                go_wp2_with (at_builtin; first
                  | (refine wpList_append_full poE _ rfl _ _ 25 rfl Tryz.underlying25 ex _ 0 1 [P] rfl (rl1 (fun hh => absurd (hexi _ hh) (by simp; try omega)) (by first | (simp; done) | (simp; omega) | omega) (by simp [go_sem, ↓IntWalk.iteOmega]) (hPi.mono (Kr.of_below (by repeat first | with_reducible exact .refl .. | with_reducible assumption | refine .s ?_ ?_ | refine .m ?_ ?_ | refine .l ?_ ?_ | refine .d ?_ | refine .e ?_ | (simp <;> omega) | omega) _))) _ _ _ (L.drop j) rfl (RL.cutAny (houti.mono (Kr.of_below (by repeat first | with_reducible exact .refl .. | with_reducible assumption | refine .s ?_ ?_ | refine .m ?_ ?_ | refine .l ?_ ?_ | refine .d ?_ | refine .e ?_ | (simp <;> omega) | omega) _)) hj (by intro hh; simp [go_sem, ↓IntWalk.iteOmega]; try omega)) hn1 (fun b hb => Nat.lt_of_lt_of_le (hexi b hb) (by first | (simp; done) | (simp; omega) | omega)) ?_; intro b3 o3 c3 w3 hr3 hb3; have hB3 : Below wi.heap.size wi w3 := (show Below wi.heap.size wi _ from (by repeat first | with_reducible exact .refl .. | with_reducible assumption | refine .s ?_ ?_ | refine .m ?_ ?_ | refine .l ?_ ?_ | refine .d ?_ | refine .e ?_ | (simp <;> omega) | omega)).trans (hb3.mono (by first | (simp; done) | (simp; omega) | omega)))
                  | (refine wpList_append_full poE _ rfl _ _ 25 rfl Tryz.underlying25 ex b o j (L.take j) rfl (RL.cutTo (houti.mono (Kr.of_below hB3 _)) hj) _ _ _ ([P] ++ L.drop j) rfl hr3 hn2 (fun b hb => Nat.lt_of_lt_of_le (hexi b hb) hB3.size) ?_; intro b4 o4 c4 w4 hr4 hb4; have hB4 : Below wi.heap.size wi w4 := hB3.trans (hb4.mono hB3.size)))
                all_goals
                  go_wp2_with fail
                  go_roundw
                  case rel => exact ⟨k + 1, b4, o4, c4, by omega, by go_num, by rw [HLN.out], by rw [HLN.out, HIN.out]; exact hr4, hbi.trans (hB4.mono hsi)⟩
                  case measure => simp [intOf]; omega
    · obtain rfl : k = n := by omega
      rw [List.take_of_length_le (by rw [← HL.out]; exact Nat.le_refl _)] at hout ⊢
      go_wp2_with fail
      go_ret
      exact RetL.mk rfl hb hout

end Go.Proofs.YthhdleppkggepaaGreat
