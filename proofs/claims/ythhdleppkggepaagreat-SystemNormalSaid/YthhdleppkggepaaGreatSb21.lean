/-
  The walks of system.name and of the reference's Name.
-/
import Derived.Laws.RangeAny
import Derived.Lib.OthersKept
import Derived.Shelf.SlSortCmp.WholeK
import Derived.Test.YthhdleppkggepaaGreatProg
import Derived.Maps.RangeWalk
import Derived.Test.YthhdleppkggepaaGreatSb07
import Derived.Test.YthhdleppkggepaaGreatSb12
import Derived.Test.YthhdleppkggepaaGreatSb20

set_option linter.unusedSimpArgs false
set_option linter.unusedVariables false
set_option linter.unusedSectionVars false

namespace Go.Proofs.YthhdleppkggepaaGreat
open Go.RowKit Go.Deep
set_option maxRecDepth 100000

/-- A byte that may stand at a place of a name. -/
def okAt (k x : Nat) : Prop := (65 ≤ x ∧ x ≤ 90) ∨ (97 ≤ x ∧ x ≤ 122) ∨ (k ≠ 0 ∧ (x = 95 ∨ (48 ≤ x ∧ x ≤ 57)))
def NameP (s : ByteArray) : Prop := 1 ≤ s.size ∧ s.size ≤ 12 ∧ ∀ k (h : k < s.size), okAt k (s[k]'h).toNat
noncomputable def nameB (s : ByteArray) : Bool := @decide (NameP s) (Classical.propDecidable _)
theorem nameB_true {s : ByteArray} (h : NameP s) : nameB s = true := by unfold nameB; exact @decide_eq_true _ (Classical.propDecidable _) h
theorem nameB_false {s : ByteArray} (h : ¬ NameP s) : nameB s = false := by unfold nameB; exact @decide_eq_false _ (Classical.propDecidable _) h
theorem nameB_bad {s : ByteArray} {k : Nat} (h : k < s.size) (hb : ¬ okAt k (s[k]'h).toNat) : nameB s = false := nameB_false fun hn => hb (hn.2.2 k h)
theorem list_empty {s : ByteArray} (h : s.size = 0) : s.toList.isEmpty = true := by
  rw [ByteArray.toList_eq]
  have : s.data.size = 0 := h
  simp [Array.eq_empty_of_size_eq_zero this]
theorem list_nonempty {s : ByteArray} (h : s.size ≠ 0) : s.toList.isEmpty = false := by
  rw [ByteArray.toList_eq, ← Bool.not_eq_true, List.isEmpty_iff]
  intro e
  apply h
  have := congrArg List.length e
  simpa using this
/-- Where the iterator stands. -/
def iterPos (w : World) (g : Nat) : Nat := match w.heap[g]? with | some (.stringIter _ p) => p | _ => 0
theorem iterPos_iter (w : World) (s : ByteArray) (k : Nat) : iterPos (w.iter s k) w.heap.size = k := by unfold iterPos; rw [World.iter_heap]

def letB (x : Nat) : Bool := decide ((65 ≤ x ∧ x ≤ 90) ∨ (97 ≤ x ∧ x ≤ 122))
set_option maxHeartbeats 1000000 in
theorem letter_ok (w : World) (x : Nat) : Calls Tryz.prog 70 #[.int .u8 x] w (RetB w (letB x)) := by
  by_cases h1 : (65 : Int) ≤ (x : Int) <;> by_cases h2 : (x : Int) ≤ 90 <;> by_cases h3 : (97 : Int) ≤ (x : Int) <;> by_cases h4 : (x : Int) ≤ 122
  all_goals
    first
    | have HL : Hid (letB x = true) := Lib.hid (decide_eq_true (by omega))
      rw [HL.out]
      go_enter Tryz.func70, Tryz.ntmps70
      go_wp2_with fail
      all_goals (go_ret; exact RetB.mk rfl (by repeat first | with_reducible exact .refl .. | with_reducible assumption | refine .s ?_ ?_ | refine .m ?_ ?_ | refine .l ?_ ?_ | refine .d ?_ | refine .e ?_ | (simp <;> omega) | omega))
    | have HL : Hid (letB x = false) := Lib.hid (decide_eq_false (by omega))
      rw [HL.out]
      go_enter Tryz.func70, Tryz.ntmps70
      go_wp2_with fail
      all_goals (go_ret; exact RetB.mk rfl (by repeat first | with_reducible exact .refl .. | with_reducible assumption | refine .s ?_ ?_ | refine .m ?_ ?_ | refine .l ?_ ?_ | refine .d ?_ | refine .e ?_ | (simp <;> omega) | omega))

theorem alpha_or (k x : Nat) : okAt k x ↔ (letB x = true ∨ (k ≠ 0 ∧ (x = 95 ∨ (48 ≤ x ∧ x ≤ 57)))) := by
  unfold okAt letB; rw [decide_eq_true_eq]
  constructor
  · rintro (h | h | h)
    · exact .inl (.inl h)
    · exact .inl (.inr h)
    · exact .inr h
  · rintro ((h | h) | h)
    · exact .inl h
    · exact .inr (.inl h)
    · exact .inr (.inr h)

theorem World.below_iter (w : World) (s : ByteArray) (k : Nat) : Below w.heap.size w (w.iter s k) := (Below.refl _ _).alloc (Nat.le_refl _) _
theorem below_iterAt' {B : Nat} {a w : World} (h : Below B a w) {k : Nat} (hk : B ≤ k) (s : ByteArray) (pos : Nat) : Below B a (w.iterAt k s pos) :=
  ⟨Go.Lib.below_iterAt h.low hk s pos, h.draws⟩
set_option maxHeartbeats 2000000 in
theorem name_ok (w : World) (s : ByteArray) (hs : s.size ≤ 1000000) : Calls Tryz.prog 69 #[.string s] w (RetB w (nameB s)) := by
  by_cases h12 : 12 < s.size
  · have HB : Hid (nameB s = false) := Lib.hid (nameB_false fun h => by have := h.2.1; omega)
    have h12' : (12 : Int) < (s.size : Int) := by omega
    rw [HB.out]
    go_enter Tryz.func69, Tryz.ntmps69
    go_wp2_with fail
    go_ret
    exact RetB.mk rfl (by repeat first | with_reducible exact .refl .. | with_reducible assumption | refine .s ?_ ?_ | refine .m ?_ ?_ | refine .l ?_ ?_ | refine .d ?_ | refine .e ?_ | (simp <;> omega) | omega)
  · have h12' : ¬ (12 : Int) < (s.size : Int) := by omega
    go_enter Tryz.func69, Tryz.ntmps69
    go_wp2_with fail
    go_loopw [3] (fun _ wr => ∃ k : Nat, k ≤ s.size ∧ wr = w.iter s k ∧ ∀ i (h : i < s.size), i < k → okAt i (s[i]'h).toNat) (fun _ wr => s.size - iterPos wr w.heap.size)
    case atStart => exact ⟨0, Nat.zero_le _, rfl, fun i _ h => by omega⟩
    case round =>
      obtain ⟨k, hk, rfl, hok⟩ := hrel
      have HOk := Lib.hid hok
      clear hok
      by_cases hlt : k < s.size
      · obtain ⟨x, hx⟩ : ∃ x, (s[k]'hlt).toNat = x := ⟨_, rfl⟩
        have HX := Lib.hid hx
        have HBad : Hid (¬ okAt k x → nameB s = false) := Lib.hid (fun h => nameB_bad hlt (by rw [hx]; exact h))
        by_cases ha : x < 128
        · have hn := run_next_ascii (P := Tryz.prog) w s k 0 hlt (by rw [hx]; exact ha)
          rw [hx] at hn
          clear hx
          have hstep : okAt k x → ∀ i (h : i < s.size), i < k + 1 → okAt i (s[i]'h).toNat := fun hko i h hi => by
            by_cases hik : i = k
            · subst hik; rw [HX.out]; exact hko
            · exact HOk.out i h (by omega)
          have HStep := Lib.hid hstep
          clear hstep
          by_cases h1 : (65 : Int) ≤ (x : Int) <;> by_cases h2 : (x : Int) ≤ 90 <;> by_cases h3 : (97 : Int) ≤ (x : Int) <;> by_cases h4 : (x : Int) ≤ 122 <;> first | (exfalso; omega) | skip
          all_goals (by_cases h5 : (k : Int) = 0 <;> by_cases h6 : (x : Int) = 95 <;> by_cases h7 : (x : Int) < 48 <;> by_cases h8 : (57 : Int) < (x : Int) <;> first | (exfalso; omega) | skip)
          all_goals
            go_wp2_with fail
          all_goals
            first
            | (exfalso; rename_i q; simp [h5, h6, h7, h8] at q; done)
            | (go_ret
               rw [HBad.out (by unfold okAt; omega)]
               exact RetB.mk rfl (World.below_iter _ _ _))
            | (go_roundw
               case rel => exact ⟨k + 1, hlt, rfl, HStep.out (by unfold okAt; omega)⟩
               case measure => rw [iterPos_iter, iterPos_iter]; omega)
            | (refine ⟨⟨k + 1, hlt, rfl, HStep.out (by unfold okAt; omega)⟩, ?_⟩
               rw [iterPos_iter, iterPos_iter]; omega)
            | (go_roundw
               refine ⟨⟨k + 1, hlt, rfl, HStep.out (by unfold okAt; omega)⟩, ?_⟩
               rw [iterPos_iter, iterPos_iter]; omega)
        · have hd := decode_high s k hlt (by rw [hx]; omega)
          have hn := Go.Lib.run_next_any_at (P := Tryz.prog) (w.iter s k) w.heap.size s k 0 (World.iter_heap w s k) hlt
          obtain ⟨c, hc⟩ : ∃ c, (Utf8.decode s k).1 = c := ⟨_, rfl⟩
          rw [hc] at hn hd
          have hcc : (128 : Int) ≤ (c : Int) := by have := hd.1; omega
          have HBad2 : Hid (nameB s = false) := Lib.hid (HBad.out (by unfold okAt; omega))
          have HBe : Hid (Below w.heap.size w ((w.iter s k).iterAt w.heap.size s (k + (Utf8.decode s k).2))) := Lib.hid (below_iterAt' (World.below_iter w s k) (Nat.le_refl _) _ _)
          generalize (w.iter s k).iterAt w.heap.size s (k + (Utf8.decode s k).2) = w9 at *
          have h1 : (65 : Int) ≤ (c : Int) := by omega
          have h2 : ¬ (c : Int) ≤ 90 := by omega
          have h3 : (97 : Int) ≤ (c : Int) := by omega
          have h4 : ¬ (c : Int) ≤ 122 := by omega
          have h6 : ¬ (c : Int) = 95 := by omega
          have h7 : ¬ (c : Int) < 48 := by omega
          have h8 : (57 : Int) < (c : Int) := by omega
          clear hx hd hc
          by_cases h5 : (k : Int) = 0
          all_goals
            go_wp2_with fail
          all_goals
            first
            | (exfalso; rename_i q; simp [h5, h6, h7, h8] at q; done)
            | (go_ret
               rw [HBad2.out]
               exact RetB.mk rfl HBe.out)
      · obtain rfl : k = s.size := by omega
        have hn := run_next_end (P := Tryz.prog) w s s.size 0 (Nat.lt_irrefl _)
        by_cases h0 : s.size = 0
        · have hE := list_empty h0
          have HB : Hid (nameB s = false) := Lib.hid (nameB_false fun h => by have := h.1; omega)
          clear h0 hlt hk
          go_wp2_with fail
          go_ret
          rw [HB.out]
          exact RetB.mk rfl (World.below_iter _ _ _)
        · have hE := list_nonempty h0
          have HB : Hid (nameB s = true) := Lib.hid (nameB_true ⟨by omega, by omega, fun i h => HOk.out i h h⟩)
          go_wp2_with fail
          go_ret
          rw [HB.out]
          exact RetB.mk rfl (World.below_iter _ _ _)

end Go.Proofs.YthhdleppkggepaaGreat

/-
  The walk of the reference's Name.
-/
namespace Go.Proofs.YthhdleppkggepaaGreat
open Go.RowKit Go.Deep
set_option maxRecDepth 100000

theorem index_str (s : ByteArray) (k : Nat) (h : k < s.size) (w : World) : (Instr.index 9 (.string s) (.int .i64 k)).run Tryz.prog w = .ok (.int .u8 ((s[k]'h).toNat : Nat)) w := by
  rw [run_index_string w 9 s .i64 k Tryz.underlying9]
  have h0 : 0 ≤ (k : Int) ∧ (k : Int) < s.size := by omega
  rw [dif_pos h0]; rfl

set_option maxHeartbeats 400000 in
theorem rname_ok (w : World) (s : ByteArray) (hs : s.size ≤ 1000000) : Calls Tryz.prog 29 #[.string s] w (RetB w (nameB s)) := by
  by_cases h1 : s.size < 1
  · have HB : Hid (nameB s = false) := Lib.hid (nameB_false fun h => by have := h.1; omega)
    have h1' : (s.size : Int) < 1 := by omega
    rw [HB.out]
    go_enter Tryz.func29, Tryz.ntmps29
    go_wp2_with fail
    go_ret
    exact RetB.mk rfl (by repeat first | with_reducible exact .refl .. | with_reducible assumption | refine .s ?_ ?_ | refine .m ?_ ?_ | refine .l ?_ ?_ | refine .d ?_ | refine .e ?_ | (simp <;> omega) | omega)
  have h1' : ¬ (s.size : Int) < 1 := by omega
  by_cases h12 : 12 < s.size
  · have HB : Hid (nameB s = false) := Lib.hid (nameB_false fun h => by have := h.2.1; omega)
    have h12' : (12 : Int) < (s.size : Int) := by omega
    rw [HB.out]
    go_enter Tryz.func29, Tryz.ntmps29
    go_wp2_with fail
    go_ret
    exact RetB.mk rfl (by repeat first | with_reducible exact .refl .. | with_reducible assumption | refine .s ?_ ?_ | refine .m ?_ ?_ | refine .l ?_ ?_ | refine .d ?_ | refine .e ?_ | (simp <;> omega) | omega)
  have h12' : ¬ (12 : Int) < (s.size : Int) := by omega
  have hlt0 : 0 < s.size := by omega
  have hix : ∀ w, (Instr.index 9 (.string s) (.int .i64 0)).run Tryz.prog w = .ok (.int .u8 ((s[0]'hlt0).toNat : Nat)) w := fun w => index_str s 0 hlt0 w
  obtain ⟨x0, hx0⟩ : ∃ x, (s[0]'hlt0).toNat = x := ⟨_, rfl⟩
  rw [hx0] at hix
  have HX0 := Lib.hid hx0
  clear hx0
  cases hl0 : letB x0 with
  | false =>
    have HB : Hid (nameB s = false) := Lib.hid (nameB_bad hlt0 (by rw [HX0.out, alpha_or, hl0]; simp))
    go_enter Tryz.func29, Tryz.ntmps29
    go_wp2_with fail
    refine (letter_ok _ x0).mono ?_; rintro e w1 ⟨X, D, rfl, rfl⟩
    rw [hl0]
    go_wp2_with fail
    go_ret
    exact RetB.mk (by rw [HB.out]; rfl) (by repeat first | with_reducible exact .refl .. | with_reducible assumption | refine .s ?_ ?_ | refine .m ?_ ?_ | refine .l ?_ ?_ | refine .d ?_ | refine .e ?_ | (simp <;> omega) | omega)
  | true =>
    have HOk0 : Hid (okAt 0 x0) := Lib.hid ((alpha_or 0 x0).2 (.inl hl0))
    go_enter Tryz.func29, Tryz.ntmps29
    go_wp2_with fail
    refine (letter_ok _ x0).mono ?_; rintro e w1 ⟨X, D, rfl, rfl⟩
    rw [hl0]
    go_wp2_with fail
    go_loopw [3] (fun v wr => ∃ k : Nat, 1 ≤ k ∧ k ≤ s.size ∧ v = .int .i64 k ∧ Below w.heap.size w wr ∧ ∀ i (h : i < s.size), i < k → okAt i (s[i]'h).toNat) (fun v _ => s.size - (intOf v).toNat)
    case atStart => exact ⟨1, Nat.le_refl _, by omega, rfl, (by repeat first | with_reducible exact .refl .. | with_reducible assumption | refine .s ?_ ?_ | refine .m ?_ ?_ | refine .l ?_ ?_ | refine .d ?_ | refine .e ?_ | (simp <;> omega) | omega), fun i h hi => by
      have e : i = 0 := by omega
      subst e
      rw [HX0.out]; exact HOk0.out⟩
    case round =>
      obtain ⟨k, hk1, hk, rfl, hb, hok⟩ := hrel
      have HOk := Lib.hid hok
      have hsz := hb.size
      clear hok
      by_cases hlt : k < s.size
      · have hlt' : (k : Int) < (s.size : Int) := by omega
        have hixk := index_str s k hlt
        obtain ⟨x, hx⟩ : ∃ x, (s[k]'hlt).toNat = x := ⟨_, rfl⟩
        rw [hx] at hixk
        have HX := Lib.hid hx
        clear hx
        have HBad : Hid (¬ okAt k x → nameB s = false) := Lib.hid (fun h => nameB_bad hlt (by rw [HX.out]; exact h))
        have HStep : Hid (okAt k x → ∀ i (h : i < s.size), i < k + 1 → okAt i (s[i]'h).toNat) := Lib.hid (fun hko i h hi => by
          by_cases hik : i = k
          · subst hik; rw [HX.out]; exact hko
          · exact HOk.out i h (by omega))
        obtain ⟨lb, hlb⟩ : ∃ lb, letB x = lb := ⟨_, rfl⟩
        have HLb := Lib.hid hlb
        clear hix
        go_wp2_with fail
        refine (letter_ok _ x).mono ?_; rintro e w2 ⟨X2, D2, rfl, rfl⟩
        rw [hlb]
        clear hlb
        cases lb with
        | true =>
          have HG : Hid (okAt k x) := Lib.hid ((alpha_or k x).2 (.inl HLb.out))
          go_wp2_with fail
          go_roundw
          case rel => exact ⟨k + 1, by omega, hlt, by go_num, (by repeat first | with_reducible exact .refl .. | with_reducible assumption | refine .s ?_ ?_ | refine .m ?_ ?_ | refine .l ?_ ?_ | refine .d ?_ | refine .e ?_ | (simp <;> omega) | omega), HStep.out HG.out⟩
          case measure => simp [intOf]; omega
        | false =>
          by_cases h6 : (x : Int) = 95 <;> by_cases h7 : (48 : Int) ≤ (x : Int) <;> by_cases h8 : (x : Int) ≤ 57 <;> first | (exfalso; omega) | skip
          all_goals
            first
            | (have e6 : ((x : Int) != 95) = true := bne_iff_ne.2 h6; go_wp2_with fail)
            | (have e6 : ((x : Int) != 95) = false := by rw [h6]; rfl
               go_wp2_with fail)
          all_goals
            first
            | (exfalso; rename_i q; simp at q; omega)
            | (go_ret
               rw [HBad.out (by rw [alpha_or, HLb.out]; simp; omega)]
               exact RetB.mk rfl (by repeat first | with_reducible exact .refl .. | with_reducible assumption | refine .s ?_ ?_ | refine .m ?_ ?_ | refine .l ?_ ?_ | refine .d ?_ | refine .e ?_ | (simp <;> omega) | omega))
            | (go_roundw
               case rel => exact ⟨k + 1, by omega, hlt, by go_num, (by repeat first | with_reducible exact .refl .. | with_reducible assumption | refine .s ?_ ?_ | refine .m ?_ ?_ | refine .l ?_ ?_ | refine .d ?_ | refine .e ?_ | (simp <;> omega) | omega), HStep.out ((alpha_or k x).2 (.inr ⟨by omega, by omega⟩))⟩
               case measure => simp [intOf]; omega)
      · obtain rfl : k = s.size := by omega
        have hlt' : ¬ (s.size : Int) < (s.size : Int) := by omega
        have HB : Hid (nameB s = true) := Lib.hid (nameB_true ⟨by omega, by omega, fun i h => HOk.out i h h⟩)
        go_wp2_with fail
        go_ret
        rw [HB.out]
        exact RetB.mk rfl (by repeat first | with_reducible exact .refl .. | with_reducible assumption | refine .s ?_ ?_ | refine .m ?_ ?_ | refine .l ?_ ?_ | refine .d ?_ | refine .e ?_ | (simp <;> omega) | omega)

end Go.Proofs.YthhdleppkggepaaGreat

/-
  slices.pdqsortCmpFunc at terms: where the library's functions and types lie in this program (printed by the kit's own tool).
-/
namespace Go.Proofs
open Go.Shelf
def Tryz.pdqT_ren : Go.Shelf.Ren := ⟨fun | 14 => 224 | 20 => 233 | 21 => 234 | 22 => 235 | 23 => 236 | 24 => 237 | 25 => 238 | 26 => 239 | 27 => 240 | 46 => 243 | 47 => 214 | 48 => 215 | 49 => 244 | 50 => 245 | 15 => 143 | 57 => 246 | 28 => 186 | 29 => 187 | n => n, fun | 24 => 118 | 22 => 64 | 3 => 3 | 25 => 181 | 4 => 4 | 0 => 0 | 46 => 205 | 45 => 204 | 50 => 209 | 66 => 236 | 39 => 178 | 55 => 157 | 70 => 240 | 76 => 255 | 77 => 256 | 53 => 192 | 5 => 5 | 9 => 9 | n => n, fun | n => n⟩
theorem Tryz.pdqT : Go.Proofs.SlLaysF0.n14 Tryz.prog Tryz.pdqT_ren := {
  mixed := by kernel_rfl
  f14 := ⟨Tryz.f224.name, by decide, Tryz.func224.trans (congrArg some (by kernel_rfl))⟩
  f15 := Tryz.func143.trans (congrArg some (by kernel_rfl))
  f20 := ⟨Tryz.f233.name, by decide, Tryz.func233.trans (congrArg some (by kernel_rfl))⟩
  f21 := ⟨Tryz.f234.name, by decide, Tryz.func234.trans (congrArg some (by kernel_rfl))⟩
  f22 := ⟨Tryz.f235.name, by decide, Tryz.func235.trans (congrArg some (by kernel_rfl))⟩
  f23 := ⟨Tryz.f236.name, by decide, Tryz.func236.trans (congrArg some (by kernel_rfl))⟩
  f24 := ⟨Tryz.f237.name, by decide, Tryz.func237.trans (congrArg some (by kernel_rfl))⟩
  f25 := ⟨Tryz.f238.name, by decide, Tryz.func238.trans (congrArg some (by kernel_rfl))⟩
  f26 := ⟨Tryz.f239.name, by decide, Tryz.func239.trans (congrArg some (by kernel_rfl))⟩
  f27 := ⟨Tryz.f240.name, by decide, Tryz.func240.trans (congrArg some (by kernel_rfl))⟩
  f28 := Tryz.func186.trans (congrArg some (by kernel_rfl))
  f29 := Tryz.func187.trans (congrArg some (by kernel_rfl))
  f46 := ⟨Tryz.f243.name, by decide, Tryz.func243.trans (congrArg some (by kernel_rfl))⟩
  f47 := Tryz.func214.trans (congrArg some (by kernel_rfl))
  f48 := Tryz.func215.trans (congrArg some (by kernel_rfl))
  f49 := ⟨Tryz.f244.name, by decide, Tryz.func244.trans (congrArg some (by kernel_rfl))⟩
  f50 := ⟨Tryz.f245.name, by decide, Tryz.func245.trans (congrArg some (by kernel_rfl))⟩
  f57 := ⟨Tryz.f246.name, by decide, Tryz.func246.trans (congrArg some (by kernel_rfl))⟩
  t0 := Tryz.underlying0
  a0 := Tryz.isAgg0
  z0 := Tryz.sizeOf0
  v0 := Tryz.zeroValue0
  t3 := Tryz.underlying3
  a3 := Tryz.isAgg3
  z3 := Tryz.sizeOf3
  v3 := Tryz.zeroValue3
  t4 := Tryz.underlying4
  a4 := Tryz.isAgg4
  z4 := Tryz.sizeOf4
  v4 := Tryz.zeroValue4
  t5 := Tryz.underlying5
  a5 := Tryz.isAgg5
  z5 := Tryz.sizeOf5
  v5 := Tryz.zeroValue5
  t9 := Tryz.underlying9
  a9 := Tryz.isAgg9
  z9 := Tryz.sizeOf9
  v9 := Tryz.zeroValue9
  t22 := Tryz.underlying64
  a22 := Tryz.isAgg64
  z22 := Tryz.sizeOf64
  v22 := Tryz.zeroValue64
  t25 := Tryz.underlying181
  a25 := Tryz.isAgg181
  z25 := Tryz.sizeOf181
  v25 := Tryz.zeroValue181
  t39 := Tryz.underlying178
  a39 := Tryz.isAgg178
  z39 := Tryz.sizeOf178
  v39 := Tryz.zeroValue178
  t45 := Tryz.underlying204
  a45 := Tryz.isAgg204
  z45 := Tryz.sizeOf204
  v45 := Tryz.zeroValue204
  t46 := Tryz.underlying205
  a46 := Tryz.isAgg205
  z46 := Tryz.sizeOf205
  v46 := Tryz.zeroValue205
  t50 := Tryz.underlying209
  a50 := Tryz.isAgg209
  z50 := Tryz.sizeOf209
  v50 := Tryz.zeroValue209
  t53 := Tryz.underlying192
  a53 := Tryz.isAgg192
  z53 := Tryz.sizeOf192
  v53 := Tryz.zeroValue192
  t55 := Tryz.underlying157
  a55 := Tryz.isAgg157
  z55 := Tryz.sizeOf157
  v55 := Tryz.zeroValue157
  t66 := Tryz.underlying236
  a66 := Tryz.isAgg236
  z66 := Tryz.sizeOf236
  v66 := Tryz.zeroValue236
  t70 := Tryz.underlying240
  a70 := Tryz.isAgg240
  z70 := Tryz.sizeOf240
  v70 := Tryz.zeroValue240
  t76 := Tryz.underlying255
  a76 := Tryz.isAgg255
  z76 := Tryz.sizeOf255
  v76 := Tryz.zeroValue255
  t77 := Tryz.underlying256
  a77 := Tryz.isAgg256
  z77 := Tryz.sizeOf256
  v77 := Tryz.zeroValue256 }
end Go.Proofs

/-
  The map from monomials to numbers that a sum is: how it is read, and the laws at its operations.
-/
namespace Go.Proofs.YthhdleppkggepaaGreat
open Go.RowKit Go.Deep
open Go.ChangeMaps (setBlock heap_setBlock_same heap_setBlock_other)
open Go.MapKept (heap_set)
set_option maxRecDepth 100000

def monoV (m : List Int) : Value := .agg (m.map fun x => Value.int .i64 x).toArray
theorem list8 {m : List Int} (h : m.length = 8) : ∃ e0 e1 e2 e3 e4 e5 e6 e7, m = [e0, e1, e2, e3, e4, e5, e6, e7] := by
  match m, h with
  | [e0, e1, e2, e3, e4, e5, e6, e7], _ => exact ⟨_, _, _, _, _, _, _, _, rfl⟩
/-- An entry of the map: a monomial and its number. -/
def ME (w : World) (ex : List Nat) (x : Rat × List Int) (e : MapEntry) : Prop :=
  x.2.length = 8 ∧ e.key = monoV x.2 ∧ ∃ s1 A1 n1 c1 s2 A2 n2 c2, e.val = .agg #[.bool s1, .slice A1 n1 c1, .bool s2, .slice A2 n2 c2] ∧ RQ w ex s1 A1 n1 c1 s2 A2 n2 c2 x.1
theorem ME.mono {w w' : World} {ex ex' : List Nat} {x : Rat × List Int} {e : MapEntry} (h : ME w ex x e) (k : Kr w ex w' ex') : ME w' ex' x e := by
  obtain ⟨h1, h2, s1, A1, n1, c1, s2, A2, n2, c2, h3, h4⟩ := h
  exact ⟨h1, h2, s1, A1, n1, c1, s2, A2, n2, c2, h3, h4.mono k⟩
/-- Block b is a map of these terms, in the order in which they were laid. -/
def MapR (w : World) (ex : List Nat) (b : Nat) (L : List (Rat × List Int)) : Prop :=
  ∃ (Z : List ((Rat × List Int) × MapEntry)) (clock : Nat), w.heap[b]? = some (.map (Z.map (·.2)).toArray clock) ∧ L = Z.map (·.1) ∧ (∀ z ∈ Z, ME w ([b] ++ ex) z.1 z.2) ∧ (∀ z ∈ Z, z.2.born < clock) ∧ (Z.map (·.2.born)).Nodup
theorem MapR.made (w : World) (ex : List Nat) : MapR (w.alloc (.map #[] 0)) ex w.heap.size [] :=
  ⟨[], 0, by simpa using (MapKept.heap_alloc w _).1, rfl, by simp, by simp, by simp⟩
theorem MapR.lt {w : World} {ex : List Nat} {b : Nat} {L : List (Rat × List Int)} (h : MapR w ex b L) : b < w.heap.size := by
  obtain ⟨Z, clock, hb, _⟩ := h
  exact (Array.getElem?_eq_some_iff.1 hb).1
theorem MapR.mono {w w' : World} {ex ex' : List Nat} {b : Nat} {L : List (Rat × List Int)} (h : MapR w ex b L) (k : Kr w ([b] ++ ex) w' ([b] ++ ex')) (hb : w'.heap[b]? = w.heap[b]?) : MapR w' ex' b L := by
  obtain ⟨Z, clock, h1, h2, h3, h4, h5⟩ := h
  exact ⟨Z, clock, hb.trans h1, h2, fun z hz => (h3 z hz).mono k, h4, h5⟩
theorem MapR.keep {w w' : World} {ex : List Nat} {b : Nat} {L : List (Rat × List Int)} (h : MapR w ex b L) (k : Below w.heap.size w w') : MapR w' ex b L :=
  h.mono (Kr.of_below k _) (k.block b h.lt)

theorem eqlm (w : World) {a b : List Int} (ha : a.length = 8) (hb : b.length = 8) : (Op.equal 68 (monoV a) (monoV b)).run Tryz.prog w = .ok (decide (a = b)) w := by
  obtain ⟨e0, e1, e2, e3, e4, e5, e6, e7, rfl⟩ := list8 ha
  obtain ⟨f0, f1, f2, f3, f4, f5, f6, f7, rfl⟩ := list8 hb
  exact eql8 w e0 e1 e2 e3 e4 e5 e6 e7 f0 f1 f2 f3 f4 f5 f6 f7
theorem check8 (w : World) (em : Bool) {m : List Int} (hm : m.length = 8) : (Instr.checkKey em 10000 68 (monoV m)).run Tryz.prog w = .ok () w := by
  obtain ⟨e0, e1, e2, e3, e4, e5, e6, e7, rfl⟩ := list8 hm
  have hs : (Tryz.prog.info? 3).map (fun i => i.size) = some 1 := by kernel_rfl
  obtain ⟨i, hi, hsz⟩ := Option.map_eq_some_iff.1 hs
  show (Instr.checkKey em (9999 + 1) 68 _).run _ _ = _
  unfold Instr.checkKey
  simp only [Sem.run_bind, run_underlying Tryz.underlying68, Result.andThen_ok]
  have hag : ∀ w, (isAgg 3).run Tryz.prog w = .ok false w := by intro w; simp [isAgg, run_underlying Tryz.underlying3, go_sem]
  have hck : ∀ (a : Int) (w : World), (Instr.checkKey em 9999 3 (.int .i64 a)).run Tryz.prog w = .ok () w := fun a w => by
    show (Instr.checkKey em (9998 + 1) 3 _).run _ _ = _
    unfold Instr.checkKey
    simp [Sem.run_bind, run_underlying Tryz.underlying3, go_sem]
  simp [monoV, go_sem, sizeOf, typeInfo, hi, hsz, Go.part, show List.range' 0 8 = [0, 1, 2, 3, 4, 5, 6, 7] from rfl, List.forIn_cons, hag, hck]
theorem asking8 (w : World) {m : List Int} (hm : m.length = 8) : ∀ (Z : List ((Rat × List Int) × MapEntry)) (i : Nat), (∀ z ∈ Z, z.1.2.length = 8 ∧ z.2.key = monoV z.1.2 ∧ z.1.2 ≠ m) → (Instr.findAsking 68 (monoV m) (Z.map (·.2)) i).run Tryz.prog w = .ok none w
  | [], _, _ => rfl
  | z :: r, i, h => by
    obtain ⟨h1, h2, h3⟩ := h z (by simp)
    show (Instr.findAsking 68 (monoV m) (z.2 :: r.map (·.2)) i).run Tryz.prog w = _
    unfold Instr.findAsking
    rw [Sem.run_bind, h2, eqlm w hm h1, decide_eq_false (fun e => h3 e.symm)]
    exact asking8 w hm r (i + 1) (fun y hy => h y (List.mem_cons_of_mem _ hy))
theorem find8 (w : World) {m : List Int} (hm : m.length = 8) (Z : List ((Rat × List Int) × MapEntry)) (h : ∀ z ∈ Z, z.1.2.length = 8 ∧ z.2.key = monoV z.1.2 ∧ z.1.2 ≠ m) : (Instr.findKey 68 (monoV m) (Z.map (·.2))).run Tryz.prog w = .ok none w := by
  unfold Instr.findKey
  rw [Sem.run_bind, run_underlying Tryz.underlying68, Result.andThen_ok]
  cases Z with
  | nil => rfl
  | cons z r =>
    have := asking8 w hm (z :: r) 0 h
    simp only [List.map_cons] at this ⊢
    simp only [Instr.findNow, Instr.sameNow]
    exact this
theorem zeroRat (w : World) : (zeroValue 59).run Tryz.prog w = .ok (.agg #[.bool false, .slice none 0 0, .bool false, .slice none 0 0]) w := by kernel_rfl
/-- 'old, ok := s[m]', m not in the map. -/
theorem MapR.lookup {w : World} {ex : List Nat} {b : Nat} {L : List (Rat × List Int)} (h : MapR w ex b L) {m : List Int} (hm : m.length = 8) (hn : ∀ t ∈ L, t.2 ≠ m) :
    (Instr.lookup 184 (.map (some b)) (monoV m) true).run Tryz.prog w = .ok (.tuple #[.agg #[.bool false, .slice none 0 0, .bool false, .slice none 0 0], .bool false]) w := by
  obtain ⟨Z, clock, h1, rfl, h3, h4, h5⟩ := h
  have hf := find8 w hm Z (fun z hz => ⟨(h3 z hz).1, (h3 z hz).2.1, hn _ (List.mem_map_of_mem hz)⟩)
  simp [Instr.lookup, run_underlying Tryz.underlying184, MapKept.run_getObj_map h1, check8 w _ hm, hf, zeroRat, Result.andThen]
/-- 's[m] = c', m not in the map. -/
theorem MapR.store {w : World} {ex : List Nat} {b : Nat} {L : List (Rat × List Int)} (h : MapR w ex b L) {m : List Int} (hm : m.length = 8) (hn : ∀ t ∈ L, t.2 ≠ m) {s1 : Bool} {A1 : Option Addr} {n1 c1 : Nat} {s2 : Bool} {A2 : Option Addr} {n2 c2 : Nat} {q : Rat} (hq : RQ w ([b] ++ ex) s1 A1 n1 c1 s2 A2 n2 c2 q) :
    ∃ w', (Instr.mapUpdate 184 (.map (some b)) (monoV m) (.agg #[.bool s1, .slice A1 n1 c1, .bool s2, .slice A2 n2 c2])).run Tryz.prog w = .ok () w' ∧ MapR w' ex b (L ++ [(q, m)]) ∧ w.grownBy w' (some b) ∧ w'.heap.size = w.heap.size ∧ w'.drawn = w.drawn := by
  obtain ⟨Z, clock, h1, rfl, h3, h4, h5⟩ := h
  have hf := find8 w hm Z (fun z hz => ⟨(h3 z hz).1, (h3 z hz).2.1, hn _ (List.mem_map_of_mem hz)⟩)
  let e : MapEntry := { key := monoV m, val := .agg #[.bool s1, .slice A1 n1 c1, .bool s2, .slice A2 n2 c2], born := clock }
  have hrun : (Instr.mapUpdate 184 (.map (some b)) (monoV m) (.agg #[.bool s1, .slice A1 n1 c1, .bool s2, .slice A2 n2 c2])).run Tryz.prog w = .ok () (setBlock w b (.map ((Z.map (·.2)).toArray.push e) (clock + 1))) := by
    simp [Instr.mapUpdate, run_underlying Tryz.underlying184, MapKept.run_getObj_map h1, check8 w _ hm, hf, MapKept.run_setObj_map _ h1, Result.andThen, setBlock, e]
  have hg : w.grownBy (setBlock w b (.map ((Z.map (·.2)).toArray.push e) (clock + 1))) (some b) := ⟨rfl, rfl, rfl, by simp [setBlock], fun i _ hi => heap_setBlock_other h1 _ (fun e => hi (by rw [e]))⟩
  have hk : Kr w ([b] ++ ex) (setBlock w b (.map ((Z.map (·.2)).toArray.push e) (clock + 1))) ([b] ++ ex) := ⟨by simp [setBlock], fun _ _ h => h, fun i hi hx => hg.block i hi (by intro e; cases e; exact hx (by simp))⟩
  refine ⟨_, hrun, ⟨Z ++ [((q, m), e)], clock + 1, ?_, by simp, ?_, ?_, ?_⟩, hg, by simp [setBlock], rfl⟩
  · rw [heap_setBlock_same h1]; simp
  · intro z hz
    rcases List.mem_append.1 hz with hz | hz
    · exact (h3 z hz).mono hk
    · simp only [List.mem_singleton] at hz; subst hz
      exact ⟨hm, rfl, s1, A1, n1, c1, s2, A2, n2, c2, rfl, hq.mono hk⟩
  · intro z hz
    rcases List.mem_append.1 hz with hz | hz
    · have := h4 z hz; omega
    · simp only [List.mem_singleton] at hz; subst hz; exact Nat.lt_succ_self _
  · rw [List.map_append, List.nodup_append]
    refine ⟨h5, by simp, ?_⟩
    intro x hx y hy e1
    simp only [List.map_cons, List.map_nil, List.mem_singleton] at hy
    obtain ⟨z, hz, rfl⟩ := List.mem_map.1 hx
    have := h4 z hz
    have h6 : z.2.born = clock := e1.trans hy
    omega

/-- 'for m, c := range s' under way: 'done' has come out. -/
def RgR (w : World) (ex : List Nat) (b r : Nat) (L done : List (Rat × List Int)) : Prop :=
  ∃ (Z DZ : List ((Rat × List Int) × MapEntry)) (clock since : Nat) (seen : Array Nat) (c0 : Nat), w.heap[b]? = some (.map (Z.map (·.2)).toArray clock) ∧ L = Z.map (·.1) ∧ (∀ z ∈ Z, ME w ([b, r] ++ ex) z.1 z.2) ∧ (∀ z ∈ Z, z.2.born < since) ∧ (Z.map (·.2.born)).Nodup ∧
    w.heap[r]? = some (.mapIter (some b) since seen c0) ∧ since ≤ c0 ∧ since ≤ clock ∧ r ≠ b ∧ done = DZ.map (·.1) ∧ Z.Perm (DZ ++ Z.filter fun z => !seen.contains z.2.born)
theorem RgR.mono {w w' : World} {ex ex' : List Nat} {b r : Nat} {L done : List (Rat × List Int)} (h : RgR w ex b r L done) (k : Kr w ([b, r] ++ ex) w' ([b, r] ++ ex')) (hb : w'.heap[b]? = w.heap[b]?) (hr : w'.heap[r]? = w.heap[r]?) : RgR w' ex' b r L done := by
  obtain ⟨Z, DZ, clock, since, seen, c0, h1, h2, h3, h4, h5, h6, h7⟩ := h
  exact ⟨Z, DZ, clock, since, seen, c0, hb.trans h1, h2, fun z hz => (h3 z hz).mono k, h4, h5, hr.trans h6, h7⟩
theorem RgR.lt {w : World} {ex : List Nat} {b r : Nat} {L done : List (Rat × List Int)} (h : RgR w ex b r L done) : b < w.heap.size ∧ r < w.heap.size := by
  obtain ⟨Z, DZ, clock, since, seen, c0, h1, h2, h3, h4, h5, h6, h7⟩ := h
  exact ⟨(Array.getElem?_eq_some_iff.1 h1).1, (Array.getElem?_eq_some_iff.1 h6).1⟩
theorem RgR.keep {w w' : World} {ex : List Nat} {b r : Nat} {L done : List (Rat × List Int)} (h : RgR w ex b r L done) (k : Below w.heap.size w w') : RgR w' ex b r L done :=
  h.mono (Kr.of_below k _) (k.block b h.lt.1) (k.block r h.lt.2)
theorem filter_map2 {α β : Type} (f : α → β) (p : β → Bool) (l : List α) : (l.map f).filter p = (l.filter fun a => p (f a)).map f := by
  induction l with
  | nil => rfl
  | cons a l ih => simp only [List.map_cons, List.filter_cons, ih]; split <;> simp
theorem leftOf_size (Z : List ((Rat × List Int) × MapEntry)) (seen : Array Nat) : (leftOf (Z.map (·.2)).toArray seen).size = (Z.filter fun z => !seen.contains z.2.born).length := by
  unfold leftOf
  rw [← Array.length_toList, Array.toList_filter]
  show ((Z.map (·.2)).filter _).length = _
  rw [filter_map2, List.length_map]
theorem RgR.left {w : World} {ex : List Nat} {b r : Nat} {L done : List (Rat × List Int)} (h : RgR w ex b r L done) : done.length + w.rangeLeft b r = L.length := by
  obtain ⟨Z, DZ, clock, since, seen, c0, h1, rfl, h3, h4, h5, h6, h7, h8, h9, rfl, h10⟩ := h
  simp only [World.rangeLeft, h1, h6, leftOf_size]
  have := h10.length_eq
  rw [List.length_append] at this
  simp only [List.length_map]; omega
/-- 'range s'. -/
theorem MapR.range {w : World} {ex : List Nat} {b : Nat} {L : List (Rat × List Int)} (h : MapR w ex b L) :
    ∃ w', (Instr.range 184 (.map (some b))).run Tryz.prog w = .ok (.pointer (some ⟨w.heap.size, 0, none⟩)) w' ∧ RgR w' ex b w.heap.size L [] ∧ Below w.heap.size w w' ∧ w'.heap.size = w.heap.size + 1 := by
  have hlt := h.lt
  obtain ⟨Z, clock, h1, h2, h3, h4, h5⟩ := h
  have hk : Kr w ([b] ++ ex) (w.alloc (.mapIter (some b) clock #[] clock)) ([b, w.heap.size] ++ ex) :=
    ((Kr.refl w ([b] ++ ex)).alloc _).sub (by intro x hx; simp at hx ⊢; grind)
  refine ⟨_, run_range_map w _ _ _ b _ clock Tryz.underlying184 h1, ⟨Z, [], clock, clock, #[], clock, ?_, h2, fun z hz => (h3 z hz).mono hk, h4, h5, (MapKept.heap_alloc w _).1, Nat.le_refl _, Nat.le_refl _, by omega, rfl, ?_⟩, (Below.refl _ _).alloc (Nat.le_refl _) _, by simp⟩
  · exact ((MapKept.heap_alloc w _).2 b hlt).trans h1
  · have : (Z.filter fun z => !(#[] : Array Nat).contains z.2.born) = Z := List.filter_eq_self.2 (fun z _ => by simp)
    rw [this]; exact List.Perm.refl _
theorem filter_strike {Z : List ((Rat × List Int) × MapEntry)} (hn : (Z.map (·.2.born)).Nodup) {z : (Rat × List Int) × MapEntry} (hz : z ∈ Z) (p : Nat → Bool) (hp : p z.2.born = true) :
    (Z.filter fun y => p y.2.born).Perm (z :: Z.filter fun y => p y.2.born && !(y.2.born == z.2.born)) := by
  induction Z with
  | nil => simp at hz
  | cons a Z ih =>
    simp only [List.map_cons, List.nodup_cons] at hn
    rcases List.mem_cons.1 hz with e | hz
    · subst e
      have : (Z.filter fun y => p y.2.born && !(y.2.born == z.2.born)) = Z.filter fun y => p y.2.born := by
        apply List.filter_congr
        intro y hy
        have : y.2.born ≠ z.2.born := fun e => hn.1 (e ▸ List.mem_map_of_mem hy)
        simp [this]
      simp [hp, this]
    · have hne : a.2.born ≠ z.2.born := fun e => hn.1 (e ▸ List.mem_map_of_mem (f := fun y : (Rat × List Int) × MapEntry => y.2.born) hz)
      have ih := ih hn.2 hz
      by_cases ha : p a.2.born = true
      · simp only [List.filter_cons, ha, if_true, Bool.true_and]
        rw [if_pos (by simp [hne])]
        exact (ih.cons a).trans (List.Perm.swap _ _ _)
      · simp only [List.filter_cons]
        rw [if_neg ha, if_neg (by simp [ha])]
        exact ih
/-- The step. -/
theorem RgR.next {w : World} {ex : List Nat} {b r : Nat} {L done : List (Rat × List Int)} (h : RgR w ex b r L done) (ty : TypeId) :
    (L.Perm done ∧ (Instr.next (.pointer (some ⟨r, 0, none⟩)) false ty).run Tryz.prog w = .ok (.tuple #[.bool false]) w) ∨
    ∃ (q : Rat) (e0 e1 e2 e3 e4 e5 e6 e7 : Int) (s1 : Bool) (A1 : Option Addr) (n1 c1 : Nat) (s2 : Bool) (A2 : Option Addr) (n2 c2 : Nat) (w' : World), (Instr.next (.pointer (some ⟨r, 0, none⟩)) false ty).run Tryz.prog w = .ok (.tuple #[.bool true, .agg #[.int .i64 e0, .int .i64 e1, .int .i64 e2, .int .i64 e3, .int .i64 e4, .int .i64 e5, .int .i64 e6, .int .i64 e7], .agg #[.bool s1, .slice A1 n1 c1, .bool s2, .slice A2 n2 c2]]) w' ∧ (q, [e0, e1, e2, e3, e4, e5, e6, e7]) ∈ L ∧ RQ w' ([b, r] ++ ex) s1 A1 n1 c1 s2 A2 n2 c2 q ∧
      RgR w' ex b r L (done ++ [(q, [e0, e1, e2, e3, e4, e5, e6, e7])]) ∧ w.grownBy w' (some r) ∧ w'.heap.size = w.heap.size ∧ w.drawn ≤ w'.drawn ∧ (Instr.entry (.pointer (some ⟨r, 0, none⟩))).run Tryz.prog w' = .ok (.tuple #[.agg #[.int .i64 e0, .int .i64 e1, .int .i64 e2, .int .i64 e3, .int .i64 e4, .int .i64 e5, .int .i64 e6, .int .i64 e7], .agg #[.bool s1, .slice A1 n1 c1, .bool s2, .slice A2 n2 c2]]) w' := by
  obtain ⟨Z, DZ, clock, since, seen, c0, h1, rfl, h3, h4, h5, h6, h7, h8, h9, rfl, h10⟩ := h
  have hold : ∀ x ∈ (Z.map (·.2)).toArray.toList, x.born < since := by
    intro x hx
    obtain ⟨z, hz, rfl⟩ := List.mem_map.1 hx
    exact h4 z hz
  rcases run_next_at (P := Tryz.prog) w ty r b since c0 seen _ clock h6 h1 hold h7 with ⟨h0, hrun⟩ | ⟨e, he, w1, hal, hrun⟩
  · refine .inl ⟨?_, hrun⟩
    rw [leftOf_size] at h0
    rw [List.eq_nil_of_length_eq_zero h0, List.append_nil] at h10
    exact h10.map _
  · obtain ⟨hem, hes⟩ := mem_left he
    obtain ⟨z, hz, rfl⟩ := List.mem_map.1 hem
    obtain ⟨m8, hkey, s1, A1, n1, c1, s2, A2, n2, c2, hval, hq⟩ := h3 z hz
    obtain ⟨⟨q, m⟩, e⟩ := z
    obtain ⟨e0, e1, e2, e3, e4, e5, e6, e7, hm⟩ := list8 m8
    simp only at hm hkey hval hq hes hrun
    subst hm
    have hkey' : e.key = .agg #[.int .i64 e0, .int .i64 e1, .int .i64 e2, .int .i64 e3, .int .i64 e4, .int .i64 e5, .int .i64 e6, .int .i64 e7] := hkey
    have hr1 : w1.heap[r]? = some (.mapIter (some b) since seen c0) := by rcases hal with rfl | rfl <;> exact h6
    have hb1 : w1.heap[b]? = some (.map (Z.map (·.2)).toArray clock) := by rcases hal with rfl | rfl <;> exact h1
    have hset := heap_set (o' := .mapIter (some b) since (seen.push e.born) clock) hr1
    have hg : w.grownBy (setBlock w1 r (.mapIter (some b) since (seen.push e.born) clock)) (some r) := by
      rcases hal with rfl | rfl <;> exact ⟨rfl, rfl, rfl, by simp [setBlock], fun i _ hi => hset.2 i (fun e1 => hi (by rw [e1]))⟩
    have hsz : (setBlock w1 r (.mapIter (some b) since (seen.push e.born) clock)).heap.size = w.heap.size := by rcases hal with rfl | rfl <;> simp [setBlock]
    have hd : w.drawn ≤ (setBlock w1 r (.mapIter (some b) since (seen.push e.born) clock)).drawn := by rcases hal with rfl | rfl <;> simp [setBlock]
    have hk : Kr w ([b, r] ++ ex) (setBlock w1 r (.mapIter (some b) since (seen.push e.born) clock)) ([b, r] ++ ex) := ⟨by rw [hsz]; exact Nat.le_refl _, fun _ _ h => h, fun i hi hx => hg.block i hi (by intro e; cases e; exact hx (by simp))⟩
    have hb' := (hset.2 b (fun e1 => h9 e1.symm)).trans hb1
    refine .inr ⟨q, e0, e1, e2, e3, e4, e5, e6, e7, s1, A1, n1, c1, s2, A2, n2, c2, _, by rw [hrun, hkey', hval], List.mem_map_of_mem (f := Prod.fst) hz, hq.mono hk, ⟨Z, DZ ++ [((q, [e0, e1, e2, e3, e4, e5, e6, e7]), e)], clock, since, seen.push e.born, clock, hb', rfl, fun z hz => (h3 z hz).mono hk, h4, h5, hset.1, h8, h8, h9, by simp, ?_⟩, hg, hsz, hd, ?_⟩
    · refine h10.trans ?_
      rw [List.append_assoc]
      refine List.Perm.append_left _ ?_
      have := filter_strike h5 hz (fun n => !seen.contains n) (by simpa using hes)
      refine this.trans (List.Perm.cons _ (List.Perm.of_eq ?_))
      apply List.filter_congr
      intro y _
      rw [contains_push]
      cases seen.contains y.2.born <;> rfl
    · have hn : ((Z.map (·.2)).toArray.toList.map (·.born)).Nodup := by
        show ((Z.map (·.2)).map (·.born)).Nodup
        rw [List.map_map]; exact h5
      have := run_entry_at (P := Tryz.prog) (setBlock w1 r (.mapIter (some b) since (seen.push e.born) clock)) r b since seen _ clock e hset.1 hb' (List.mem_map_of_mem (f := Prod.snd) hz) hn
      rw [this, hkey', hval]

section
variable (w : World) {ops : Array Oper} {rest : List Oper} {o : Oper} {a : Act} {Q : Exit → Act → World → Prop}
theorem wpList_mono_store (hg : o.guard = none) (m x v : Operand) (hop : o.op = Op.mapUpdate 184 m x v) {ex : List Nat} {b : Nat} {L : List (Rat × List Int)} (hm : a.eval m = .map (some b)) (hown : MapR w ex b L) {e0 e1 e2 e3 e4 e5 e6 e7 : Int} (hx : a.eval x = .agg #[.int .i64 e0, .int .i64 e1, .int .i64 e2, .int .i64 e3, .int .i64 e4, .int .i64 e5, .int .i64 e6, .int .i64 e7]) (hn : ∀ t ∈ L, t.2 ≠ [e0, e1, e2, e3, e4, e5, e6, e7]) {s1 : Bool} {A1 : Option Addr} {n1 c1 : Nat} {s2 : Bool} {A2 : Option Addr} {n2 c2 : Nat} (hv : a.eval v = .agg #[.bool s1, .slice A1 n1 c1, .bool s2, .slice A2 n2 c2]) {q : Rat} (hq : RQ w ([b] ++ ex) s1 A1 n1 c1 s2 A2 n2 c2 q)
    (hK : ∀ w', MapR w' ex b (L ++ [(q, [e0, e1, e2, e3, e4, e5, e6, e7])]) → w.grownBy w' (some b) → w'.heap.size = w.heap.size → w'.drawn = w.drawn → wpList Tryz.prog ops Q rest (a.put o.dst undef) w') :
    wpList Tryz.prog ops Q (o :: rest) a w := by
  refine wpList_plain hg fun K' hK' => ?_
  obtain ⟨w', hrun, r1, r2, r3, r4⟩ := hown.store (m := [e0, e1, e2, e3, e4, e5, e6, e7]) rfl hn hq
  have hrun' : (Instr.mapUpdate 184 (.map (some b)) (.agg #[.int .i64 e0, .int .i64 e1, .int .i64 e2, .int .i64 e3, .int .i64 e4, .int .i64 e5, .int .i64 e6, .int .i64 e7]) (.agg #[.bool s1, .slice A1 n1 c1, .bool s2, .slice A2 n2 c2])).run Tryz.prog w = .ok () w' := hrun
  unfold Oper.wp
  simp [execOp, hop, hm, hx, hv, hrun', Result.andThen]
  exact hK' _ _ (hK w' r1 r2 r3 r4)
theorem wpList_mono_lookup (hg : o.guard = none) (m x : Operand) (hop : o.op = Op.lookup 184 m x true) {ex : List Nat} {b : Nat} {L : List (Rat × List Int)} (hm : a.eval m = .map (some b)) (hown : MapR w ex b L) {e0 e1 e2 e3 e4 e5 e6 e7 : Int} (hx : a.eval x = .agg #[.int .i64 e0, .int .i64 e1, .int .i64 e2, .int .i64 e3, .int .i64 e4, .int .i64 e5, .int .i64 e6, .int .i64 e7]) (hn : ∀ t ∈ L, t.2 ≠ [e0, e1, e2, e3, e4, e5, e6, e7])
    (hK : wpList Tryz.prog ops Q rest (a.put o.dst (.tuple #[.agg #[.bool false, .slice none 0 0, .bool false, .slice none 0 0], .bool false])) w) :
    wpList Tryz.prog ops Q (o :: rest) a w := by
  refine wpList_plain hg fun K' hK' => ?_
  have hrun : (Instr.lookup 184 (.map (some b)) (.agg #[.int .i64 e0, .int .i64 e1, .int .i64 e2, .int .i64 e3, .int .i64 e4, .int .i64 e5, .int .i64 e6, .int .i64 e7]) true).run Tryz.prog w = _ := hown.lookup (m := [e0, e1, e2, e3, e4, e5, e6, e7]) rfl hn
  unfold Oper.wp
  simp [execOp, hop, hm, hx, hrun, Result.andThen]
  exact hK' _ _ hK
theorem wpList_mono_range (hg : o.guard = none) (m : Operand) (hop : o.op = Op.range 184 m) {ex : List Nat} {b : Nat} {L : List (Rat × List Int)} (hm : a.eval m = .map (some b)) (hown : MapR w ex b L)
    (hK : ∀ w', RgR w' ex b w.heap.size L [] → Below w.heap.size w w' → w'.heap.size = w.heap.size + 1 → wpList Tryz.prog ops Q rest (a.put o.dst (.pointer (some ⟨w.heap.size, 0, none⟩))) w') :
    wpList Tryz.prog ops Q (o :: rest) a w := by
  refine wpList_plain hg fun K' hK' => ?_
  obtain ⟨w', hrun, r1, r2, r3⟩ := hown.range
  unfold Oper.wp
  simp [execOp, hop, hm, hrun, Result.andThen]
  exact hK' _ _ (hK w' r1 r2 r3)
theorem wpList_mono_next (hg : o.guard = none) (it : Operand) (hop : o.op = Op.next it false) {ex : List Nat} {b r : Nat} {L done : List (Rat × List Int)} (hit : a.eval it = .pointer (some ⟨r, 0, none⟩)) (h : RgR w ex b r L done)
    (hDone : L.Perm done → wpList Tryz.prog ops Q rest (a.put o.dst (.tuple #[.bool false])) w)
    (hMore : ∀ (q : Rat) (e0 e1 e2 e3 e4 e5 e6 e7 : Int) (s1 : Bool) (A1 : Option Addr) (n1 c1 : Nat) (s2 : Bool) (A2 : Option Addr) (n2 c2 : Nat) (w' : World), (q, [e0, e1, e2, e3, e4, e5, e6, e7]) ∈ L → RQ w' ([b, r] ++ ex) s1 A1 n1 c1 s2 A2 n2 c2 q → RgR w' ex b r L (done ++ [(q, [e0, e1, e2, e3, e4, e5, e6, e7])]) → w.grownBy w' (some r) → w'.heap.size = w.heap.size → w.drawn ≤ w'.drawn →
      (Instr.entry (.pointer (some ⟨r, 0, none⟩))).run Tryz.prog w' = .ok (.tuple #[.agg #[.int .i64 e0, .int .i64 e1, .int .i64 e2, .int .i64 e3, .int .i64 e4, .int .i64 e5, .int .i64 e6, .int .i64 e7], .agg #[.bool s1, .slice A1 n1 c1, .bool s2, .slice A2 n2 c2]]) w' → wpList Tryz.prog ops Q rest (a.put o.dst (.tuple #[.bool true, .agg #[.int .i64 e0, .int .i64 e1, .int .i64 e2, .int .i64 e3, .int .i64 e4, .int .i64 e5, .int .i64 e6, .int .i64 e7], .agg #[.bool s1, .slice A1 n1 c1, .bool s2, .slice A2 n2 c2]])) w') :
    wpList Tryz.prog ops Q (o :: rest) a w := by
  refine wpList_plain hg fun K' hK' => ?_
  unfold Oper.wp
  rcases h.next o.type with ⟨h0, hrun⟩ | ⟨q, e0, e1, e2, e3, e4, e5, e6, e7, s1, A1, n1, c1, s2, A2, n2, c2, w', hrun, h1, h2, h3, h4, h5, h6, h7⟩
  · simp [execOp, hop, hit, hrun, Result.andThen]
    exact hK' _ _ (hDone h0)
  · simp [execOp, hop, hit, hrun, Result.andThen]
    exact hK' _ _ (hMore q e0 e1 e2 e3 e4 e5 e6 e7 s1 A1 n1 c1 s2 A2 n2 c2 w' h1 h2 h3 h4 h5 h6 h7)
end

end Go.Proofs.YthhdleppkggepaaGreat
