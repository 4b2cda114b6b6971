/-
  The walks of system.name and of the reference's Name.
-/
import Derived.Laws.RangeAny
import Derived.Lib.OthersKept
import Derived.Shelf.SlSortCmp.WholeK
import Derived.Test.YthhdleppkggepaaGreatProg
import Derived.Test.YthhdleppkggepaaGreatSn27

set_option linter.unusedSimpArgs false
set_option linter.unusedVariables false
set_option linter.unusedSectionVars false

namespace Go.Proofs.YthhdleppkggepaaGreat
open Go.RowKit Go.Deep
set_option maxRecDepth 100000

/-- A byte that may stand at a place of a name. -/
def okAt (k x : Nat) : Prop := (65 ≤ x ∧ x ≤ 90) ∨ (97 ≤ x ∧ x ≤ 122) ∨ (k ≠ 0 ∧ (x = 95 ∨ (48 ≤ x ∧ x ≤ 57)))
def NameP (s : ByteArray) : Prop := 1 ≤ s.size ∧ s.size ≤ 12 ∧ ∀ k (h : k < s.size), okAt k (s[k]'h).toNat
noncomputable def nameB (s : ByteArray) : Bool := @decide (NameP s) (Classical.propDecidable _)
theorem nameB_true {s : ByteArray} (h : NameP s) : nameB s = true := by unfold nameB; exact @decide_eq_true _ (Classical.propDecidable _) h
theorem nameB_false {s : ByteArray} (h : ¬ NameP s) : nameB s = false := by unfold nameB; exact @decide_eq_false _ (Classical.propDecidable _) h
theorem nameB_bad {s : ByteArray} {k : Nat} (h : k < s.size) (hb : ¬ okAt k (s[k]'h).toNat) : nameB s = false := nameB_false fun hn => hb (hn.2.2 k h)
theorem list_empty {s : ByteArray} (h : s.size = 0) : s.toList.isEmpty = true := by
  rw [ByteArray.toList_eq]
  have : s.data.size = 0 := h
  simp [Array.eq_empty_of_size_eq_zero this]
theorem list_nonempty {s : ByteArray} (h : s.size ≠ 0) : s.toList.isEmpty = false := by
  rw [ByteArray.toList_eq, ← Bool.not_eq_true, List.isEmpty_iff]
  intro e
  apply h
  have := congrArg List.length e
  simpa using this
/-- Where the iterator stands. -/
def iterPos (w : World) (g : Nat) : Nat := match w.heap[g]? with | some (.stringIter _ p) => p | _ => 0
theorem iterPos_iter (w : World) (s : ByteArray) (k : Nat) : iterPos (w.iter s k) w.heap.size = k := by unfold iterPos; rw [World.iter_heap]

def letB (x : Nat) : Bool := decide ((65 ≤ x ∧ x ≤ 90) ∨ (97 ≤ x ∧ x ≤ 122))
set_option maxHeartbeats 1000000 in
theorem letter_ok (w : World) (x : Nat) : Calls Tryz.prog 70 #[.int .u8 x] w (RetB w (letB x)) := by
  by_cases h1 : (65 : Int) ≤ (x : Int) <;> by_cases h2 : (x : Int) ≤ 90 <;> by_cases h3 : (97 : Int) ≤ (x : Int) <;> by_cases h4 : (x : Int) ≤ 122
  all_goals
    first
    | have HL : Hid (letB x = true) := Lib.hid (decide_eq_true (by omega))
      rw [HL.out]
      go_enter Tryz.func70, Tryz.ntmps70
      go_wp2_with fail
      all_goals (go_ret; exact RetB.mk rfl (by repeat (first | (with_reducible exact Below.refl _ _) | (with_reducible assumption) | refine Below.setCell ?_ (by first | (simp; done) | (simp; omega) | omega) _ | refine Below.more ?_ (by first | (simp; done) | (simp; omega) | omega) _ _ | refine Below.alloc ?_ (by first | (simp; done) | (simp; omega) | omega) _ | refine Below.drew ?_ | refine Below.drewN ?_ _)))
    | have HL : Hid (letB x = false) := Lib.hid (decide_eq_false (by omega))
      rw [HL.out]
      go_enter Tryz.func70, Tryz.ntmps70
      go_wp2_with fail
      all_goals (go_ret; exact RetB.mk rfl (by repeat (first | (with_reducible exact Below.refl _ _) | (with_reducible assumption) | refine Below.setCell ?_ (by first | (simp; done) | (simp; omega) | omega) _ | refine Below.more ?_ (by first | (simp; done) | (simp; omega) | omega) _ _ | refine Below.alloc ?_ (by first | (simp; done) | (simp; omega) | omega) _ | refine Below.drew ?_ | refine Below.drewN ?_ _)))

theorem alpha_or (k x : Nat) : okAt k x ↔ (letB x = true ∨ (k ≠ 0 ∧ (x = 95 ∨ (48 ≤ x ∧ x ≤ 57)))) := by
  unfold okAt letB; rw [decide_eq_true_eq]
  constructor
  · rintro (h | h | h)
    · exact .inl (.inl h)
    · exact .inl (.inr h)
    · exact .inr h
  · rintro ((h | h) | h)
    · exact .inl h
    · exact .inr (.inl h)
    · exact .inr (.inr h)

theorem World.below_iter (w : World) (s : ByteArray) (k : Nat) : Below w.heap.size w (w.iter s k) := (Below.refl _ _).alloc (Nat.le_refl _) _
theorem below_iterAt' {B : Nat} {a w : World} (h : Below B a w) {k : Nat} (hk : B ≤ k) (s : ByteArray) (pos : Nat) : Below B a (w.iterAt k s pos) :=
  ⟨Go.Lib.below_iterAt h.low hk s pos, h.draws⟩
set_option maxHeartbeats 2000000 in
theorem name_ok (w : World) (s : ByteArray) (hs : s.size ≤ 1000000) : Calls Tryz.prog 69 #[.string s] w (RetB w (nameB s)) := by
  by_cases h12 : 12 < s.size
  · have HB : Hid (nameB s = false) := Lib.hid (nameB_false fun h => by have := h.2.1; omega)
    have h12' : (12 : Int) < (s.size : Int) := by omega
    rw [HB.out]
    go_enter Tryz.func69, Tryz.ntmps69
    go_wp2_with fail
    go_ret
    exact RetB.mk rfl (by repeat (first | (with_reducible exact Below.refl _ _) | (with_reducible assumption) | refine Below.setCell ?_ (by first | (simp; done) | (simp; omega) | omega) _ | refine Below.more ?_ (by first | (simp; done) | (simp; omega) | omega) _ _ | refine Below.alloc ?_ (by first | (simp; done) | (simp; omega) | omega) _ | refine Below.drew ?_ | refine Below.drewN ?_ _))
  · have h12' : ¬ (12 : Int) < (s.size : Int) := by omega
    go_enter Tryz.func69, Tryz.ntmps69
    go_wp2_with fail
    go_loopw [3] (fun _ wr => ∃ k : Nat, k ≤ s.size ∧ wr = w.iter s k ∧ ∀ i (h : i < s.size), i < k → okAt i (s[i]'h).toNat) (fun _ wr => s.size - iterPos wr w.heap.size)
    case atStart => exact ⟨0, Nat.zero_le _, rfl, fun i _ h => by omega⟩
    case round =>
      obtain ⟨k, hk, rfl, hok⟩ := hrel
      have HOk := Lib.hid hok
      clear hok
      by_cases hlt : k < s.size
      · obtain ⟨x, hx⟩ : ∃ x, (s[k]'hlt).toNat = x := ⟨_, rfl⟩
        have HX := Lib.hid hx
        have HBad : Hid (¬ okAt k x → nameB s = false) := Lib.hid (fun h => nameB_bad hlt (by rw [hx]; exact h))
        by_cases ha : x < 128
        · have hn := run_next_ascii (P := Tryz.prog) w s k 0 hlt (by rw [hx]; exact ha)
          rw [hx] at hn
          clear hx
          have hstep : okAt k x → ∀ i (h : i < s.size), i < k + 1 → okAt i (s[i]'h).toNat := fun hko i h hi => by
            by_cases hik : i = k
            · subst hik; rw [HX.out]; exact hko
            · exact HOk.out i h (by omega)
          have HStep := Lib.hid hstep
          clear hstep
          by_cases h1 : (65 : Int) ≤ (x : Int) <;> by_cases h2 : (x : Int) ≤ 90 <;> by_cases h3 : (97 : Int) ≤ (x : Int) <;> by_cases h4 : (x : Int) ≤ 122 <;> first | (exfalso; omega) | skip
          all_goals (by_cases h5 : (k : Int) = 0 <;> by_cases h6 : (x : Int) = 95 <;> by_cases h7 : (x : Int) < 48 <;> by_cases h8 : (57 : Int) < (x : Int) <;> first | (exfalso; omega) | skip)
          all_goals
            go_wp2_with fail
          all_goals
            first
            | (exfalso; rename_i q; simp [h5, h6, h7, h8] at q; done)
            | (go_ret
               rw [HBad.out (by unfold okAt; omega)]
               exact RetB.mk rfl (World.below_iter _ _ _))
            | (go_roundw
               case rel => exact ⟨k + 1, hlt, rfl, HStep.out (by unfold okAt; omega)⟩
               case measure => rw [iterPos_iter, iterPos_iter]; omega)
            | (refine ⟨⟨k + 1, hlt, rfl, HStep.out (by unfold okAt; omega)⟩, ?_⟩
               rw [iterPos_iter, iterPos_iter]; omega)
            | (go_roundw
               refine ⟨⟨k + 1, hlt, rfl, HStep.out (by unfold okAt; omega)⟩, ?_⟩
               rw [iterPos_iter, iterPos_iter]; omega)
        · have hd := decode_high s k hlt (by rw [hx]; omega)
          have hn := Go.Lib.run_next_any_at (P := Tryz.prog) (w.iter s k) w.heap.size s k 0 (World.iter_heap w s k) hlt
          obtain ⟨c, hc⟩ : ∃ c, (Utf8.decode s k).1 = c := ⟨_, rfl⟩
          rw [hc] at hn hd
          have hcc : (128 : Int) ≤ (c : Int) := by have := hd.1; omega
          have HBad2 : Hid (nameB s = false) := Lib.hid (HBad.out (by unfold okAt; omega))
          have HBe : Hid (Below w.heap.size w ((w.iter s k).iterAt w.heap.size s (k + (Utf8.decode s k).2))) := Lib.hid (below_iterAt' (World.below_iter w s k) (Nat.le_refl _) _ _)
          generalize (w.iter s k).iterAt w.heap.size s (k + (Utf8.decode s k).2) = w9 at *
          have h1 : (65 : Int) ≤ (c : Int) := by omega
          have h2 : ¬ (c : Int) ≤ 90 := by omega
          have h3 : (97 : Int) ≤ (c : Int) := by omega
          have h4 : ¬ (c : Int) ≤ 122 := by omega
          have h6 : ¬ (c : Int) = 95 := by omega
          have h7 : ¬ (c : Int) < 48 := by omega
          have h8 : (57 : Int) < (c : Int) := by omega
          clear hx hd hc
          by_cases h5 : (k : Int) = 0
          all_goals
            go_wp2_with fail
          all_goals
            first
            | (exfalso; rename_i q; simp [h5, h6, h7, h8] at q; done)
            | (go_ret
               rw [HBad2.out]
               exact RetB.mk rfl HBe.out)
      · obtain rfl : k = s.size := by omega
        have hn := run_next_end (P := Tryz.prog) w s s.size 0 (Nat.lt_irrefl _)
        by_cases h0 : s.size = 0
        · have hE := list_empty h0
          have HB : Hid (nameB s = false) := Lib.hid (nameB_false fun h => by have := h.1; omega)
          clear h0 hlt hk
          go_wp2_with fail
          go_ret
          rw [HB.out]
          exact RetB.mk rfl (World.below_iter _ _ _)
        · have hE := list_nonempty h0
          have HB : Hid (nameB s = true) := Lib.hid (nameB_true ⟨by omega, by omega, fun i h => HOk.out i h h⟩)
          go_wp2_with fail
          go_ret
          rw [HB.out]
          exact RetB.mk rfl (World.below_iter _ _ _)

end Go.Proofs.YthhdleppkggepaaGreat

/-
  The walk of the reference's Name.
-/
namespace Go.Proofs.YthhdleppkggepaaGreat
open Go.RowKit Go.Deep
set_option maxRecDepth 100000

theorem index_str (s : ByteArray) (k : Nat) (h : k < s.size) (w : World) : (Instr.index 9 (.string s) (.int .i64 k)).run Tryz.prog w = .ok (.int .u8 ((s[k]'h).toNat : Nat)) w := by
  rw [run_index_string w 9 s .i64 k Tryz.underlying9]
  have h0 : 0 ≤ (k : Int) ∧ (k : Int) < s.size := by omega
  rw [dif_pos h0]; rfl

set_option maxHeartbeats 400000 in
theorem rname_ok (w : World) (s : ByteArray) (hs : s.size ≤ 1000000) : Calls Tryz.prog 29 #[.string s] w (RetB w (nameB s)) := by
  by_cases h1 : s.size < 1
  · have HB : Hid (nameB s = false) := Lib.hid (nameB_false fun h => by have := h.1; omega)
    have h1' : (s.size : Int) < 1 := by omega
    rw [HB.out]
    go_enter Tryz.func29, Tryz.ntmps29
    go_wp2_with fail
    go_ret
    exact RetB.mk rfl (by repeat (first | (with_reducible exact Below.refl _ _) | (with_reducible assumption) | refine Below.setCell ?_ (by first | (simp; done) | (simp; omega) | omega) _ | refine Below.more ?_ (by first | (simp; done) | (simp; omega) | omega) _ _ | refine Below.alloc ?_ (by first | (simp; done) | (simp; omega) | omega) _ | refine Below.drew ?_ | refine Below.drewN ?_ _))
  have h1' : ¬ (s.size : Int) < 1 := by omega
  by_cases h12 : 12 < s.size
  · have HB : Hid (nameB s = false) := Lib.hid (nameB_false fun h => by have := h.2.1; omega)
    have h12' : (12 : Int) < (s.size : Int) := by omega
    rw [HB.out]
    go_enter Tryz.func29, Tryz.ntmps29
    go_wp2_with fail
    go_ret
    exact RetB.mk rfl (by repeat (first | (with_reducible exact Below.refl _ _) | (with_reducible assumption) | refine Below.setCell ?_ (by first | (simp; done) | (simp; omega) | omega) _ | refine Below.more ?_ (by first | (simp; done) | (simp; omega) | omega) _ _ | refine Below.alloc ?_ (by first | (simp; done) | (simp; omega) | omega) _ | refine Below.drew ?_ | refine Below.drewN ?_ _))
  have h12' : ¬ (12 : Int) < (s.size : Int) := by omega
  have hlt0 : 0 < s.size := by omega
  have hix : ∀ w, (Instr.index 9 (.string s) (.int .i64 0)).run Tryz.prog w = .ok (.int .u8 ((s[0]'hlt0).toNat : Nat)) w := fun w => index_str s 0 hlt0 w
  obtain ⟨x0, hx0⟩ : ∃ x, (s[0]'hlt0).toNat = x := ⟨_, rfl⟩
  rw [hx0] at hix
  have HX0 := Lib.hid hx0
  clear hx0
  cases hl0 : letB x0 with
  | false =>
    have HB : Hid (nameB s = false) := Lib.hid (nameB_bad hlt0 (by rw [HX0.out, alpha_or, hl0]; simp))
    go_enter Tryz.func29, Tryz.ntmps29
    go_wp2_with fail
    refine (letter_ok _ x0).mono ?_; rintro e w1 ⟨X, D, rfl, rfl⟩
    rw [hl0]
    go_wp2_with fail
    go_ret
    exact RetB.mk (by rw [HB.out]; rfl) (by repeat (first | (with_reducible exact Below.refl _ _) | (with_reducible assumption) | refine Below.setCell ?_ (by first | (simp; done) | (simp; omega) | omega) _ | refine Below.more ?_ (by first | (simp; done) | (simp; omega) | omega) _ _ | refine Below.alloc ?_ (by first | (simp; done) | (simp; omega) | omega) _ | refine Below.drew ?_ | refine Below.drewN ?_ _))
  | true =>
    have HOk0 : Hid (okAt 0 x0) := Lib.hid ((alpha_or 0 x0).2 (.inl hl0))
    go_enter Tryz.func29, Tryz.ntmps29
    go_wp2_with fail
    refine (letter_ok _ x0).mono ?_; rintro e w1 ⟨X, D, rfl, rfl⟩
    rw [hl0]
    go_wp2_with fail
    go_loopw [3] (fun v wr => ∃ k : Nat, 1 ≤ k ∧ k ≤ s.size ∧ v = .int .i64 k ∧ Below w.heap.size w wr ∧ ∀ i (h : i < s.size), i < k → okAt i (s[i]'h).toNat) (fun v _ => s.size - (intOf v).toNat)
    case atStart => exact ⟨1, Nat.le_refl _, by omega, rfl, (by repeat (first | (with_reducible exact Below.refl _ _) | (with_reducible assumption) | refine Below.setCell ?_ (by first | (simp; done) | (simp; omega) | omega) _ | refine Below.more ?_ (by first | (simp; done) | (simp; omega) | omega) _ _ | refine Below.alloc ?_ (by first | (simp; done) | (simp; omega) | omega) _ | refine Below.drew ?_ | refine Below.drewN ?_ _)), fun i h hi => by
      have e : i = 0 := by omega
      subst e
      rw [HX0.out]; exact HOk0.out⟩
    case round =>
      obtain ⟨k, hk1, hk, rfl, hb, hok⟩ := hrel
      have HOk := Lib.hid hok
      have hsz := hb.size
      clear hok
      by_cases hlt : k < s.size
      · have hlt' : (k : Int) < (s.size : Int) := by omega
        have hixk := index_str s k hlt
        obtain ⟨x, hx⟩ : ∃ x, (s[k]'hlt).toNat = x := ⟨_, rfl⟩
        rw [hx] at hixk
        have HX := Lib.hid hx
        clear hx
        have HBad : Hid (¬ okAt k x → nameB s = false) := Lib.hid (fun h => nameB_bad hlt (by rw [HX.out]; exact h))
        have HStep : Hid (okAt k x → ∀ i (h : i < s.size), i < k + 1 → okAt i (s[i]'h).toNat) := Lib.hid (fun hko i h hi => by
          by_cases hik : i = k
          · subst hik; rw [HX.out]; exact hko
          · exact HOk.out i h (by omega))
        obtain ⟨lb, hlb⟩ : ∃ lb, letB x = lb := ⟨_, rfl⟩
        have HLb := Lib.hid hlb
        clear hix
        go_wp2_with fail
        refine (letter_ok _ x).mono ?_; rintro e w2 ⟨X2, D2, rfl, rfl⟩
        rw [hlb]
        clear hlb
        cases lb with
        | true =>
          have HG : Hid (okAt k x) := Lib.hid ((alpha_or k x).2 (.inl HLb.out))
          go_wp2_with fail
          go_roundw
          case rel => exact ⟨k + 1, by omega, hlt, by go_num, (by repeat (first | (with_reducible exact Below.refl _ _) | (with_reducible assumption) | refine Below.setCell ?_ (by first | (simp; done) | (simp; omega) | omega) _ | refine Below.more ?_ (by first | (simp; done) | (simp; omega) | omega) _ _ | refine Below.alloc ?_ (by first | (simp; done) | (simp; omega) | omega) _ | refine Below.drew ?_ | refine Below.drewN ?_ _)), HStep.out HG.out⟩
          case measure => simp [intOf]; omega
        | false =>
          by_cases h6 : (x : Int) = 95 <;> by_cases h7 : (48 : Int) ≤ (x : Int) <;> by_cases h8 : (x : Int) ≤ 57 <;> first | (exfalso; omega) | skip
          all_goals
            first
            | (have e6 : ((x : Int) != 95) = true := bne_iff_ne.2 h6; go_wp2_with fail)
            | (have e6 : ((x : Int) != 95) = false := by rw [h6]; rfl
               go_wp2_with fail)
          all_goals
            first
            | (exfalso; rename_i q; simp at q; omega)
            | (go_ret
               rw [HBad.out (by rw [alpha_or, HLb.out]; simp; omega)]
               exact RetB.mk rfl (by repeat (first | (with_reducible exact Below.refl _ _) | (with_reducible assumption) | refine Below.setCell ?_ (by first | (simp; done) | (simp; omega) | omega) _ | refine Below.more ?_ (by first | (simp; done) | (simp; omega) | omega) _ _ | refine Below.alloc ?_ (by first | (simp; done) | (simp; omega) | omega) _ | refine Below.drew ?_ | refine Below.drewN ?_ _)))
            | (go_roundw
               case rel => exact ⟨k + 1, by omega, hlt, by go_num, (by repeat (first | (with_reducible exact Below.refl _ _) | (with_reducible assumption) | refine Below.setCell ?_ (by first | (simp; done) | (simp; omega) | omega) _ | refine Below.more ?_ (by first | (simp; done) | (simp; omega) | omega) _ _ | refine Below.alloc ?_ (by first | (simp; done) | (simp; omega) | omega) _ | refine Below.drew ?_ | refine Below.drewN ?_ _)), HStep.out ((alpha_or k x).2 (.inr ⟨by omega, by omega⟩))⟩
               case measure => simp [intOf]; omega)
      · obtain rfl : k = s.size := by omega
        have hlt' : ¬ (s.size : Int) < (s.size : Int) := by omega
        have HB : Hid (nameB s = true) := Lib.hid (nameB_true ⟨by omega, by omega, fun i h => HOk.out i h h⟩)
        go_wp2_with fail
        go_ret
        rw [HB.out]
        exact RetB.mk rfl (by repeat (first | (with_reducible exact Below.refl _ _) | (with_reducible assumption) | refine Below.setCell ?_ (by first | (simp; done) | (simp; omega) | omega) _ | refine Below.more ?_ (by first | (simp; done) | (simp; omega) | omega) _ _ | refine Below.alloc ?_ (by first | (simp; done) | (simp; omega) | omega) _ | refine Below.drew ?_ | refine Below.drewN ?_ _))

end Go.Proofs.YthhdleppkggepaaGreat

/-
  slices.pdqsortCmpFunc at terms: where the library's functions and types lie in this program (printed by the kit's own tool).
-/
namespace Go.Proofs
open Go.Shelf
def Tryz.pdqT_ren : Go.Shelf.Ren := ⟨fun | 14 => 224 | 20 => 233 | 21 => 234 | 22 => 235 | 23 => 236 | 24 => 237 | 25 => 238 | 26 => 239 | 27 => 240 | 46 => 243 | 47 => 214 | 48 => 215 | 49 => 244 | 50 => 245 | 15 => 143 | 57 => 246 | 28 => 186 | 29 => 187 | n => n, fun | 24 => 118 | 22 => 64 | 3 => 3 | 25 => 181 | 4 => 4 | 0 => 0 | 46 => 205 | 45 => 204 | 50 => 209 | 66 => 236 | 39 => 178 | 55 => 157 | 70 => 240 | 76 => 255 | 77 => 256 | 53 => 192 | 5 => 5 | 9 => 9 | n => n, fun | n => n⟩
theorem Tryz.pdqT : Go.Proofs.SlLaysF0.n14 Tryz.prog Tryz.pdqT_ren := {
  mixed := by kernel_rfl
  f14 := ⟨Tryz.f224.name, by decide, Tryz.func224.trans (congrArg some (by kernel_rfl))⟩
  f15 := Tryz.func143.trans (congrArg some (by kernel_rfl))
  f20 := ⟨Tryz.f233.name, by decide, Tryz.func233.trans (congrArg some (by kernel_rfl))⟩
  f21 := ⟨Tryz.f234.name, by decide, Tryz.func234.trans (congrArg some (by kernel_rfl))⟩
  f22 := ⟨Tryz.f235.name, by decide, Tryz.func235.trans (congrArg some (by kernel_rfl))⟩
  f23 := ⟨Tryz.f236.name, by decide, Tryz.func236.trans (congrArg some (by kernel_rfl))⟩
  f24 := ⟨Tryz.f237.name, by decide, Tryz.func237.trans (congrArg some (by kernel_rfl))⟩
  f25 := ⟨Tryz.f238.name, by decide, Tryz.func238.trans (congrArg some (by kernel_rfl))⟩
  f26 := ⟨Tryz.f239.name, by decide, Tryz.func239.trans (congrArg some (by kernel_rfl))⟩
  f27 := ⟨Tryz.f240.name, by decide, Tryz.func240.trans (congrArg some (by kernel_rfl))⟩
  f28 := Tryz.func186.trans (congrArg some (by kernel_rfl))
  f29 := Tryz.func187.trans (congrArg some (by kernel_rfl))
  f46 := ⟨Tryz.f243.name, by decide, Tryz.func243.trans (congrArg some (by kernel_rfl))⟩
  f47 := Tryz.func214.trans (congrArg some (by kernel_rfl))
  f48 := Tryz.func215.trans (congrArg some (by kernel_rfl))
  f49 := ⟨Tryz.f244.name, by decide, Tryz.func244.trans (congrArg some (by kernel_rfl))⟩
  f50 := ⟨Tryz.f245.name, by decide, Tryz.func245.trans (congrArg some (by kernel_rfl))⟩
  f57 := ⟨Tryz.f246.name, by decide, Tryz.func246.trans (congrArg some (by kernel_rfl))⟩
  t0 := Tryz.underlying0
  a0 := Tryz.isAgg0
  z0 := Tryz.sizeOf0
  v0 := Tryz.zeroValue0
  t3 := Tryz.underlying3
  a3 := Tryz.isAgg3
  z3 := Tryz.sizeOf3
  v3 := Tryz.zeroValue3
  t4 := Tryz.underlying4
  a4 := Tryz.isAgg4
  z4 := Tryz.sizeOf4
  v4 := Tryz.zeroValue4
  t5 := Tryz.underlying5
  a5 := Tryz.isAgg5
  z5 := Tryz.sizeOf5
  v5 := Tryz.zeroValue5
  t9 := Tryz.underlying9
  a9 := Tryz.isAgg9
  z9 := Tryz.sizeOf9
  v9 := Tryz.zeroValue9
  t22 := Tryz.underlying64
  a22 := Tryz.isAgg64
  z22 := Tryz.sizeOf64
  v22 := Tryz.zeroValue64
  t25 := Tryz.underlying181
  a25 := Tryz.isAgg181
  z25 := Tryz.sizeOf181
  v25 := Tryz.zeroValue181
  t39 := Tryz.underlying178
  a39 := Tryz.isAgg178
  z39 := Tryz.sizeOf178
  v39 := Tryz.zeroValue178
  t45 := Tryz.underlying204
  a45 := Tryz.isAgg204
  z45 := Tryz.sizeOf204
  v45 := Tryz.zeroValue204
  t46 := Tryz.underlying205
  a46 := Tryz.isAgg205
  z46 := Tryz.sizeOf205
  v46 := Tryz.zeroValue205
  t50 := Tryz.underlying209
  a50 := Tryz.isAgg209
  z50 := Tryz.sizeOf209
  v50 := Tryz.zeroValue209
  t53 := Tryz.underlying192
  a53 := Tryz.isAgg192
  z53 := Tryz.sizeOf192
  v53 := Tryz.zeroValue192
  t55 := Tryz.underlying157
  a55 := Tryz.isAgg157
  z55 := Tryz.sizeOf157
  v55 := Tryz.zeroValue157
  t66 := Tryz.underlying236
  a66 := Tryz.isAgg236
  z66 := Tryz.sizeOf236
  v66 := Tryz.zeroValue236
  t70 := Tryz.underlying240
  a70 := Tryz.isAgg240
  z70 := Tryz.sizeOf240
  v70 := Tryz.zeroValue240
  t76 := Tryz.underlying255
  a76 := Tryz.isAgg255
  z76 := Tryz.sizeOf255
  v76 := Tryz.zeroValue255
  t77 := Tryz.underlying256
  a77 := Tryz.isAgg256
  z77 := Tryz.sizeOf256
  v77 := Tryz.zeroValue256 }
end Go.Proofs
