/-
  The bytes that the reference of package claim writes: Nat, Number.
-/
import Derived.Test.YthhdleppkggepaaGreatSn17

set_option linter.unusedSimpArgs false
set_option linter.unusedVariables false
set_option linter.unusedSectionVars false

namespace Go.Proofs.YthhdleppkggepaaGreat
open Go.RowKit Go.Deep
set_option maxRecDepth 100000

/-- A call that appends to a slice of bytes of its own. -/
def RetAp (w : World) (base : Nat) (v : Value) (bs : List Nat) (e : Ending) (w' : World) : Prop :=
  ∃ v', e = .returned v' ∧ OwnL byE w' base [] v' bs ∧ (∀ ex, Kr w (own v ++ ex) w' (own v' ++ ex)) ∧ Below base w w' ∧ base ≤ w'.heap.size
theorem high_bit (m : Nat) : m % 256 ||| 128 = m % 128 + 128 := by
  have h1 := or_bit (s := m % 128) (k := 7) (by omega)
  rw [show (2 ^ 7 : Nat) = 128 from rfl] at h1
  by_cases h : m % 256 < 128
  · rw [show m % 256 = m % 128 by omega, h1]
  · have e : m % 256 = m % 128 ||| 128 := by rw [h1]; omega
    rw [e, Nat.or_assoc, Nat.or_self, h1]

set_option maxHeartbeats 4000000 in
theorem rnat_ok (w : World) (base : Nat) (v : Value) (bs : List Nat) (n : Nat) (hs : OwnL byE w base [] v bs) (hbase : base ≤ w.heap.size) (hn : n < 18446744073709551616) (hl : bs.length + (natB n).length ≤ 10000000000) :
    Calls Tryz.prog 159 #[v, .int .u64 n] w (RetAp w base v (bs ++ natB n)) := by
  have HL := Lib.hid hl
  clear hl
  go_enter Tryz.func159, Tryz.ntmps159
  go_wp2_with fail
  go_loopw [0, 1] (fun v' x wr => ∃ (m : Nat) (L : List Nat), x = .int .u64 m ∧ m < 18446744073709551616 ∧ OwnL byE wr base [] v' L ∧ L ++ natB m = bs ++ natB n ∧ (∀ ex, Kr w (own v ++ ex) wr (own v' ++ ex)) ∧ Below base w wr ∧ base ≤ wr.heap.size) (fun _ x _ => (intOf x).toNat)
  case atStart => exact ⟨n, bs, rfl, hn, hs, rfl, fun _ => Kr.refl _ _, Below.refl _ _, hbase⟩
  case round =>
    rename_i v'
    obtain ⟨m, L, rfl, hm, hw, he, hk, hb, hbs⟩ := hrel
    have hlen : L.length < 100000000000 := by
      have := HL.out; have h2 := congrArg List.length he; rw [List.length_append, List.length_append] at h2; omega
    by_cases hlt : m < 128
    · have hlt' : ¬ (127 : Int) < (m : Int) := by omega
      go_wp2_with (at_builtin; go_loud (refine wpList_append_elt2 byE _ rfl _ _ 35 rfl Tryz.underlying35 base [] _ L rfl (hw.keep (by repeat (first | (with_reducible exact Below.refl _ _) | (with_reducible assumption) | refine Below.setCell ?_ (by first | (simp; done) | (simp; omega) | omega) _ | refine Below.more ?_ (by first | (simp; done) | (simp; omega) | omega) _ _ | refine Below.alloc ?_ (by first | (simp; done) | (simp; omega) | omega) _ | refine Below.drew ?_ | refine Below.drewN ?_ _))) _ _ rfl m [.int .u8 m] (cell_new _ _ _ _ (by simp)) (by intro hh; rw [List.append_nil] at hh; have := (hw.le _ hh).2; omega) rfl hlen (by simp; omega) ?_; intro v2 w2 ho2 hk2 hbl1 hbl2; have hbb := hbl2 _ _ ((show Below wr.heap.size wr _ from (by repeat (first | (with_reducible exact Below.refl _ _) | (with_reducible assumption) | refine Below.setCell ?_ (by first | (simp; done) | (simp; omega) | omega) _ | refine Below.more ?_ (by first | (simp; done) | (simp; omega) | omega) _ _ | refine Below.alloc ?_ (by first | (simp; done) | (simp; omega) | omega) _ | refine Below.drew ?_ | refine Below.drewN ?_ _))).mono hbs) (Nat.le_refl _); have hsz2 := (hk2 []).size))
      go_wp2_with fail
      go_ret
      have e1 : L ++ [m] = bs ++ natB n := by rw [← he, natB_small hlt]
      rw [e1] at ho2
      exact ⟨_, rfl, ho2, fun ex => ((hk ex).trans (Kr.of_below (by repeat (first | (with_reducible exact Below.refl _ _) | (with_reducible assumption) | refine Below.setCell ?_ (by first | (simp; done) | (simp; omega) | omega) _ | refine Below.more ?_ (by first | (simp; done) | (simp; omega) | omega) _ _ | refine Below.alloc ?_ (by first | (simp; done) | (simp; omega) | omega) _ | refine Below.drew ?_ | refine Below.drewN ?_ _)) _)).trans (hk2 ex), hb.trans hbb, by simp at hsz2; omega⟩
    · have hlt' : (127 : Int) < (m : Int) := by omega
      have hy := high_bit m
      go_wp2_with (at_builtin; go_loud (refine wpList_append_elt2 byE _ rfl _ _ 35 rfl Tryz.underlying35 base [] _ L rfl (hw.keep (by repeat (first | (with_reducible exact Below.refl _ _) | (with_reducible assumption) | refine Below.setCell ?_ (by first | (simp; done) | (simp; omega) | omega) _ | refine Below.more ?_ (by first | (simp; done) | (simp; omega) | omega) _ _ | refine Below.alloc ?_ (by first | (simp; done) | (simp; omega) | omega) _ | refine Below.drew ?_ | refine Below.drewN ?_ _))) _ _ rfl (m % 128 + 128) [.int .u8 ((m : Int) % 128 + 128)] (cell_new _ _ _ _ (by simp)) (by intro hh; rw [List.append_nil] at hh; have := (hw.le _ hh).2; omega) (by show _ = _; simp) hlen (by simp; omega) ?_; intro v2 w2 ho2 hk2 hbl1 hbl2; have hbb := hbl2 _ _ ((show Below wr.heap.size wr _ from (by repeat (first | (with_reducible exact Below.refl _ _) | (with_reducible assumption) | refine Below.setCell ?_ (by first | (simp; done) | (simp; omega) | omega) _ | refine Below.more ?_ (by first | (simp; done) | (simp; omega) | omega) _ _ | refine Below.alloc ?_ (by first | (simp; done) | (simp; omega) | omega) _ | refine Below.drew ?_ | refine Below.drewN ?_ _))).mono hbs) (Nat.le_refl _); have hsz2 := (hk2 []).size))
      go_wp2_with fail
      go_roundw
      case rel =>
        refine ⟨m / 128, L ++ [m % 128 + 128], by go_num, by omega, ho2, ?_, fun ex => ((hk ex).trans (Kr.of_below (by repeat (first | (with_reducible exact Below.refl _ _) | (with_reducible assumption) | refine Below.setCell ?_ (by first | (simp; done) | (simp; omega) | omega) _ | refine Below.more ?_ (by first | (simp; done) | (simp; omega) | omega) _ _ | refine Below.alloc ?_ (by first | (simp; done) | (simp; omega) | omega) _ | refine Below.drew ?_ | refine Below.drewN ?_ _)) _)).trans (hk2 ex), hb.trans hbb, by simp at hsz2; omega⟩
        rw [← he, natB_big hlt, hy]; simp
      case measure => simp [intOf]; omega

set_option maxHeartbeats 2000000 in
theorem rnumber_ok (w : World) (base : Nat) (v : Value) (bs : List Nat) (n : Nat) (hs : OwnL byE w base [] v bs) (hbase : base ≤ w.heap.size) (hn : n < 4294967296) (hl : bs.length + (numB n).length ≤ 10000000000) :
    Calls Tryz.prog 109 #[v, .int .i64 n] w (RetAp w base v (bs ++ numB n)) := by
  have hc := rnat_ok w base v bs (2 * n) hs hbase (by omega) hl
  rw [show ((2 * n : Nat) : Int) = (n : Int) * 2 by omega] at hc
  have HC := Lib.hid hc
  clear hc hl hs
  go_enter Tryz.func109, Tryz.ntmps109
  go_wp2_with fail
  refine HC.out.mono ?_; rintro e w' ⟨v', rfl, hres⟩
  go_wp2_with fail
  go_ret
  exact ⟨v', rfl, hres⟩

end Go.Proofs.YthhdleppkggepaaGreat

/-
  The bytes that the reference of package claim writes: Whole, Rational.
-/
namespace Go.Proofs.YthhdleppkggepaaGreat
open Go.RowKit Go.Deep
set_option maxRecDepth 100000

theorem own_far {w : World} {base : Nat} {v : Value} {bs : List Nat} (h : OwnL byE w base [] v bs) {b : Nat} (hb : w.heap.size ≤ b) : b ∉ own v ++ ([] : List Nat) := by
  intro hh
  rw [List.append_nil] at hh; have := (h.le b hh).2; omega

set_option maxHeartbeats 4000000 in
theorem rwhole_ok (w : World) (base : Nat) (v : Value) (bs : List Nat) (ex : List Nat) (s : Bool) (A : Option Addr) (n c : Nat) (z : Int) (hs : OwnL byE w base [] v bs) (hbase : base ≤ w.heap.size) (hx : RI w (own v ++ ex) s A n c z) (hl : bs.length + (wholeB z).length ≤ 10000000000) :
    Calls Tryz.prog 228 #[v, .agg #[.bool s, .slice A n c]] w (RetAp w base v (bs ++ wholeB z)) := by
  have hlen := hx.2.len
  have hn : n ≤ 2500000000 := by have := wholeB_len z; omega
  have hz := hx.1
  obtain ⟨h0, hh0⟩ : ∃ x : Nat, x = 2 * n + if z < 0 then 1 else 0 := ⟨_, rfl⟩
  have hW : wholeB z = natB h0 ++ (digits z.natAbs).flatMap b4 := by rw [hh0, hlen]; rfl
  generalize hds : digits z.natAbs = ds at *
  have HW := Lib.hid hW
  have HLn := Lib.hid hlen
  have hl2 : bs.length + (natB h0).length + (ds.flatMap b4).length ≤ 10000000000 := by rw [hW, List.length_append] at hl; omega
  have hc := rnat_ok (w.alloc (.cells #[.bool s, .slice A n c] 57)) base v bs h0 (hs.keep (by repeat (first | (with_reducible exact Below.refl _ _) | (with_reducible assumption) | refine Below.setCell ?_ (by first | (simp; done) | (simp; omega) | omega) _ | refine Below.more ?_ (by first | (simp; done) | (simp; omega) | omega) _ _ | refine Below.alloc ?_ (by first | (simp; done) | (simp; omega) | omega) _ | refine Below.drew ?_ | refine Below.drewN ?_ _))) (by simp; omega) (by rw [hh0]; split <;> omega) (by omega)
  have HC := Lib.hid hc
  have HX := Lib.hid hx
  have HL := Lib.hid hl2
  have HDS := Lib.hid hds
  have HFar := Lib.hid (own_far hs (Nat.le_refl _))
  clear hs hx hl hl2 hc hW hlen hds
  go_enter Tryz.func228, Tryz.ntmps228
  have hn0 : (h0 : Int) = if s then (n : Int) * 2 + 1 else (n : Int) * 2 := by
    rw [hh0, hz]; by_cases hz0 : z < 0 <;> simp [hz0] <;> omega
  clear hh0 hz
  cases s
  case' false => have hn0' : (n : Int) * 2 = (h0 : Int) := by simpa using hn0.symm
  case' true => have hn0' : (n : Int) * 2 + 1 = (h0 : Int) := by simpa using hn0.symm
  all_goals
    clear hn0
    go_wp2_with fail
    refine HC.out.mono ?_; rintro e w1 ⟨v1, rfl, hw1, hk1, hb1, hbs1⟩
    have c1 : w1.cell? ⟨w.heap.size, 1, none⟩ = some (.slice A n c) := ((hk1 []).cell (b := w.heap.size) (by simp) HFar.out 1).trans (by simp [go_sem, ↓IntWalk.iteOmega])
    have hsz1 : w.heap.size + 1 ≤ w1.heap.size := by have := (hk1 []).size; simpa using this
    have hfar1 : w.heap.size ∉ own v1 ++ ([] : List Nat) := (hk1 []).out w.heap.size (by simp) HFar.out
    go_wp2_with fail
    have hkw : ∀ ex, Kr w (own v ++ ex) w1 (own v1 ++ ex) := fun ex => (Kr.of_below (by repeat (first | (with_reducible exact Below.refl _ _) | (with_reducible assumption) | refine Below.setCell ?_ (by first | (simp; done) | (simp; omega) | omega) _ | refine Below.more ?_ (by first | (simp; done) | (simp; omega) | omega) _ _ | refine Below.alloc ?_ (by first | (simp; done) | (simp; omega) | omega) _ | refine Below.drew ?_ | refine Below.drewN ?_ _)) _).trans (hk1 ex)
    have hbw : Below base w w1 := Below.trans (show Below base w (w.alloc (.cells #[.bool _, .slice A n c] 57)) from (show Below w.heap.size w _ from (by repeat (first | (with_reducible exact Below.refl _ _) | (with_reducible assumption) | refine Below.setCell ?_ (by first | (simp; done) | (simp; omega) | omega) _ | refine Below.more ?_ (by first | (simp; done) | (simp; omega) | omega) _ _ | refine Below.alloc ?_ (by first | (simp; done) | (simp; omega) | omega) _ | refine Below.drew ?_ | refine Below.drewN ?_ _))).mono hbase) hb1
    generalize hB1 : bs ++ natB h0 = B1 at *
    have HB1 := Lib.hid hB1
    clear hB1 hb1 hk1
    go_loopw [0, 6] (fun v' i wr => ∃ (k : Nat), k ≤ n ∧ i = .int .i64 k ∧ OwnL byE wr base [] v' (B1 ++ (ds.take k).flatMap b4) ∧ (∀ ex, Kr w1 (own v1 ++ ex) wr (own v' ++ ex)) ∧ Below base w wr ∧ base ≤ wr.heap.size) (fun _ i _ => n - (intOf i).toNat)
    case atStart => exact ⟨0, Nat.zero_le _, rfl, by simpa using hw1, fun _ => Kr.refl _ _, hbw, hbs1⟩
    case round =>
      rename_i v'
      obtain ⟨k, hk, rfl, hw, hkr, hb, hbs⟩ := hrel
      have d1 : wr.cell? ⟨w.heap.size, 1, none⟩ = some (.slice A n c) := ((hkr []).cell (b := w.heap.size) (by omega) hfar1 1).trans c1
      generalize hL : B1 ++ (ds.take k).flatMap b4 = L at *
      have HLL := Lib.hid hL; clear hL
      by_cases hlt : k < n
      · have hxw := (HX.out.mono ((hkw ex).trans (hkr ex))).2
        rw [HDS.out] at hxw
        have hkl : k < ds.length := by rw [← HLn.out]; exact hlt
        obtain ⟨b, o, rfl, hbx, hcs⟩ := hxw.at_ (by omega)
        have hcell := hcs k hkl
        have hxb := hxw.wd _ (List.getElem_mem hkl)
        have HT := Lib.hid (show B1 ++ (ds.take (k + 1)).flatMap b4 = L ++ b4 ds[k] by
          rw [List.take_succ_eq_append_getElem hkl, List.flatMap_append, ← List.append_assoc, HLL.out]; simp)
        have hLl : L.length ≤ 10000000000 := by
          have h1 := HL.out
          have h2 := congrArg List.length HLL.out
          have h3 := congrArg List.length HB1.out
          rw [List.length_append] at h2 h3
          have h4 : ((ds.take k).flatMap b4).length ≤ (ds.flatMap b4).length := by
            conv => rhs; rw [← List.take_append_drop k ds, List.flatMap_append, List.length_append]
            exact Nat.le_add_right _ _
          omega
        obtain ⟨x, hx⟩ : ∃ x, ds[k] = x := ⟨_, rfl⟩
        rw [hx] at hcell hxb HT
        clear hxw hcs hx c1
        have hi1 : (k : Int) < (n : Int) := by omega
        go_wp2_with (at_builtin; go_loud (refine wpList_append_elts2 byE _ rfl _ _ 35 rfl Tryz.underlying35 base [] _ L rfl (hw.keep (by repeat (first | (with_reducible exact Below.refl _ _) | (with_reducible assumption) | refine Below.setCell ?_ (by first | (simp; done) | (simp; omega) | omega) _ | refine Below.more ?_ (by first | (simp; done) | (simp; omega) | omega) _ _ | refine Below.alloc ?_ (by first | (simp; done) | (simp; omega) | omega) _ | refine Below.drew ?_ | refine Below.drewN ?_ _))) _ 4 _ (b4 x) rfl rfl _ (row_b4 (by simp) (by intro hh; rw [List.append_nil] at hh; have := (hw.le _ hh).2; omega)) (elts_b4 x hxb) (by omega) (by simp; omega) ?_; intro v2 w2 ho2 hk2 hbl1 hbl2; have hbb := hbl2 _ _ ((show Below wr.heap.size wr _ from (by repeat (first | (with_reducible exact Below.refl _ _) | (with_reducible assumption) | refine Below.setCell ?_ (by first | (simp; done) | (simp; omega) | omega) _ | refine Below.more ?_ (by first | (simp; done) | (simp; omega) | omega) _ _ | refine Below.alloc ?_ (by first | (simp; done) | (simp; omega) | omega) _ | refine Below.drew ?_ | refine Below.drewN ?_ _))).mono hbs) (Nat.le_refl _); have hsz2 := (hk2 []).size))
        go_wp2_with fail
        go_roundw
        case rel =>
          exact ⟨k + 1, by omega, by go_num, by rw [HT.out]; exact ho2, fun ex => ((hkr ex).trans (Kr.of_below (by repeat (first | (with_reducible exact Below.refl _ _) | (with_reducible assumption) | refine Below.setCell ?_ (by first | (simp; done) | (simp; omega) | omega) _ | refine Below.more ?_ (by first | (simp; done) | (simp; omega) | omega) _ _ | refine Below.alloc ?_ (by first | (simp; done) | (simp; omega) | omega) _ | refine Below.drew ?_ | refine Below.drewN ?_ _)) _)).trans (hk2 ex), hb.trans hbb, by simp at hsz2; omega⟩
        case measure => simp [intOf]; omega
      · obtain rfl : k = n := by omega
        clear c1
        go_wp2_with fail
        go_ret
        refine ⟨_, rfl, ?_, fun ex => (hkw ex).trans (hkr ex), hb, hbs⟩
        rw [HW.out, ← List.append_assoc, HB1.out, ← List.take_of_length_le (l := ds) (show ds.length ≤ k by rw [← HLn.out]; exact Nat.le_refl _), HLL.out]
        exact hw

end Go.Proofs.YthhdleppkggepaaGreat

/-
  The bytes that the reference of package claim writes: Rational.
-/
namespace Go.Proofs.YthhdleppkggepaaGreat
open Go.RowKit Go.Deep
set_option maxRecDepth 100000

set_option maxHeartbeats 4000000 in
theorem rrational_ok (w : World) (base : Nat) (v : Value) (bs : List Nat) (ex : List Nat) (s1 : Bool) (A1 : Option Addr) (n1 c1 : Nat) (s2 : Bool) (A2 : Option Addr) (n2 c2 : Nat) (q : Rat) (hs : OwnL byE w base [] v bs) (hbase : base ≤ w.heap.size) (hx : RQ w (own v ++ ex) s1 A1 n1 c1 s2 A2 n2 c2 q) (hl : bs.length + (ratB q).length ≤ 10000000000) :
    Calls Tryz.prog 198 #[v, .agg #[.bool s1, .slice A1 n1 c1, .bool s2, .slice A2 n2 c2]] w (RetAp w base v (bs ++ ratB q)) := by
  have HS := Lib.hid hs
  have HX := Lib.hid hx
  have HL := Lib.hid (show bs.length + (wholeB q.num).length + (wholeB (q.den : Int)).length ≤ 10000000000 by unfold ratB at hl; rw [List.length_append] at hl; omega)
  have HFar := Lib.hid (own_far hs (Nat.le_refl _))
  clear hs hx hl
  go_enter Tryz.func198, Tryz.ntmps198
  go_wp2_with fail
  refine wp_abs (fun W1 => Below w.heap.size w W1 ∧ w.heap.size < W1.heap.size ∧ W1.cell? ⟨w.heap.size, 0, none⟩ = some (.bool s1) ∧ W1.cell? ⟨w.heap.size, 1, none⟩ = some (.slice A1 n1 c1) ∧ W1.cell? ⟨w.heap.size, 2, none⟩ = some (.bool s2) ∧ W1.cell? ⟨w.heap.size, 3, none⟩ = some (.slice A2 n2 c2))
    ⟨(by repeat (first | (with_reducible exact Below.refl _ _) | (with_reducible assumption) | refine Below.setCell ?_ (by first | (simp; done) | (simp; omega) | omega) _ | refine Below.more ?_ (by first | (simp; done) | (simp; omega) | omega) _ _ | refine Below.alloc ?_ (by first | (simp; done) | (simp; omega) | omega) _ | refine Below.drew ?_ | refine Below.drewN ?_ _)), by simp, by simp [go_sem, ↓IntWalk.iteOmega], by simp [go_sem, ↓IntWalk.iteOmega], by simp [go_sem, ↓IntWalk.iteOmega], by simp [go_sem, ↓IntWalk.iteOmega]⟩ ?_
  rintro W1 ⟨hB1, hS1, b0, b1, b2, b3⟩
  go_region_held3 (fun w' => w'.cell? ⟨w.heap.size, 0, none⟩ = some (.bool s1) ∧ w'.cell? ⟨w.heap.size, 0 + 1, none⟩ = some (.slice A1 n1 c1) ∧ w'.cell? ⟨w.heap.size, 0 + 2, none⟩ = some (.bool s2) ∧ w'.cell? ⟨w.heap.size, 0 + 3, none⟩ = some (.slice A2 n2 c2))
    ((repeat' apply And.intro) <;> first | (simp [*, go_sem, ↓IntWalk.iteOmega]; done) | (refine got_of ?_; simp [*, go_sem, ↓IntWalk.iteOmega]; done))
    (first | (go_at_call_of 228 A1; refine (rwhole_ok _ base v bs ex s1 A1 n1 c1 q.num (HS.out.keep (by repeat (first | (with_reducible exact Below.refl _ _) | (with_reducible assumption) | refine Below.setCell ?_ (by first | (simp; done) | (simp; omega) | omega) _ | refine Below.more ?_ (by first | (simp; done) | (simp; omega) | omega) _ _ | refine Below.alloc ?_ (by first | (simp; done) | (simp; omega) | omega) _ | refine Below.drew ?_ | refine Below.drewN ?_ _))) (by first | (simp; done) | (simp; omega) | omega) (HX.out.1.mono (Kr.of_below (by repeat (first | (with_reducible exact Below.refl _ _) | (with_reducible assumption) | refine Below.setCell ?_ (by first | (simp; done) | (simp; omega) | omega) _ | refine Below.more ?_ (by first | (simp; done) | (simp; omega) | omega) _ _ | refine Below.alloc ?_ (by first | (simp; done) | (simp; omega) | omega) _ | refine Below.drew ?_ | refine Below.drewN ?_ _)) _)) (by have := HL.out; omega)).mono ?_; rintro e w1 ⟨v1, rfl, hw1, hk1, hb1, hbs1⟩; have f1 := fun o => (hk1 []).cell (b := w.heap.size) (by first | (simp; done) | (simp; omega) | omega) HFar.out o; have g1 := (hk1 []).out w.heap.size (by first | (simp; done) | (simp; omega) | omega) HFar.out; have z1 : w.heap.size < w1.heap.size := Nat.lt_of_lt_of_le (by first | (simp; done) | (simp; omega) | omega) (hk1 []).size) | (go_at_call_of 228 A2; refine (rwhole_ok _ base v1 (bs ++ wholeB q.num) ex s2 A2 n2 c2 (q.den : Int) (hw1.keep (by repeat (first | (with_reducible exact Below.refl _ _) | (with_reducible assumption) | refine Below.setCell ?_ (by first | (simp; done) | (simp; omega) | omega) _ | refine Below.more ?_ (by first | (simp; done) | (simp; omega) | omega) _ _ | refine Below.alloc ?_ (by first | (simp; done) | (simp; omega) | omega) _ | refine Below.drew ?_ | refine Below.drewN ?_ _))) (by omega) (HX.out.den.mono (((Kr.of_below (by repeat (first | (with_reducible exact Below.refl _ _) | (with_reducible assumption) | refine Below.setCell ?_ (by first | (simp; done) | (simp; omega) | omega) _ | refine Below.more ?_ (by first | (simp; done) | (simp; omega) | omega) _ _ | refine Below.alloc ?_ (by first | (simp; done) | (simp; omega) | omega) _ | refine Below.drew ?_ | refine Below.drewN ?_ _)) _).trans (hk1 ex)).trans (Kr.of_below (by repeat (first | (with_reducible exact Below.refl _ _) | (with_reducible assumption) | refine Below.setCell ?_ (by first | (simp; done) | (simp; omega) | omega) _ | refine Below.more ?_ (by first | (simp; done) | (simp; omega) | omega) _ _ | refine Below.alloc ?_ (by first | (simp; done) | (simp; omega) | omega) _ | refine Below.drew ?_ | refine Below.drewN ?_ _)) _))) (by have := HL.out; rw [List.length_append]; omega)).mono ?_; rintro e w2 ⟨v2, rfl, hw2, hk2, hb2, hbs2⟩; have f2 := fun o => (hk2 []).cell (b := w.heap.size) (by first | (simp; done) | (simp; omega) | omega) g1 o))
  all_goals (rename_i hHeldZ; clear hHeldZ)
  all_goals
    go_wp2_with fail
    go_ret
    refine ⟨_, rfl, by unfold ratB; rw [← List.append_assoc]; exact hw2, fun ex' => (((Kr.of_below (by repeat (first | (with_reducible exact Below.refl _ _) | (with_reducible assumption) | refine Below.setCell ?_ (by first | (simp; done) | (simp; omega) | omega) _ | refine Below.more ?_ (by first | (simp; done) | (simp; omega) | omega) _ _ | refine Below.alloc ?_ (by first | (simp; done) | (simp; omega) | omega) _ | refine Below.drew ?_ | refine Below.drewN ?_ _)) _).trans (hk1 ex')).trans (Kr.of_below (by repeat (first | (with_reducible exact Below.refl _ _) | (with_reducible assumption) | refine Below.setCell ?_ (by first | (simp; done) | (simp; omega) | omega) _ | refine Below.more ?_ (by first | (simp; done) | (simp; omega) | omega) _ _ | refine Below.alloc ?_ (by first | (simp; done) | (simp; omega) | omega) _ | refine Below.drew ?_ | refine Below.drewN ?_ _)) _)).trans (hk2 ex'), ?_, hbs2⟩
    exact ((show Below w.heap.size w _ from (by repeat (first | (with_reducible exact Below.refl _ _) | (with_reducible assumption) | refine Below.setCell ?_ (by first | (simp; done) | (simp; omega) | omega) _ | refine Below.more ?_ (by first | (simp; done) | (simp; omega) | omega) _ _ | refine Below.alloc ?_ (by first | (simp; done) | (simp; omega) | omega) _ | refine Below.drew ?_ | refine Below.drewN ?_ _))).mono hbase).trans (hb1.trans hb2)

end Go.Proofs.YthhdleppkggepaaGreat

/-
  The bytes that package claim writes: a term.
-/
namespace Go.Proofs.YthhdleppkggepaaGreat
open Go.RowKit Go.Deep
set_option maxRecDepth 100000

def monB (m : List Int) : List Nat := m.flatMap (fun x => natB x.toNat)
def termB (t : Rat × List Int) : List Nat := ratB t.1 ++ monB t.2
theorem take_getD {l : List Int} {k : Nat} (hk : k < l.length) : l.take (k + 1) = l.take k ++ [l.getD k 0] := by
  rw [List.take_succ_eq_append_getElem hk]
  simp [List.getD, hk]
theorem monB_take (m : List Int) {k : Nat} (hk : k < m.length) : monB (m.take (k + 1)) = monB (m.take k) ++ natB (m.getD k 0).toNat := by
  unfold monB
  rw [take_getD hk, List.flatMap_append]; simp
theorem monB_take_le (m : List Int) (k : Nat) : (monB (m.take k)).length ≤ (monB m).length := by
  unfold monB
  conv => rhs; rw [← List.take_append_drop k m, List.flatMap_append, List.length_append]
  exact Nat.le_add_right _ _
/-- A block apart from the writer. -/
structure Apart (w : World) (g : Nat) (v : Value) (p : Nat) : Prop where
  lt : p < w.heap.size
  ne : p ≠ g
  out : p ∉ own v
theorem Apart.not {w : World} {g : Nat} {v : Value} {p : Nat} (h : Apart w g v p) : p ∉ [g] ++ (own v ++ ([] : List Nat)) := by
  intro hh
  rcases List.mem_append.1 hh with hh | hh
  · simp at hh; exact h.ne hh
  · rw [List.append_nil] at hh; exact h.out hh
theorem Apart.kr {w w' : World} {g : Nat} {v v' : Value} {p : Nat} (h : Apart w g v p) (hk : ∀ ex, Kr w ([g] ++ (own v ++ ex)) w' ([g] ++ (own v' ++ ex))) : Apart w' g v' p := by
  have := (hk []).out p h.lt h.not
  refine ⟨Nat.lt_of_lt_of_le h.lt (hk []).size, h.ne, fun hh => this ?_⟩
  simp [hh]
theorem Apart.new {w : World} {base g : Nat} {v : Value} {bs : List Nat} (h : WS w base g v bs) {w' : World} {p : Nat} (hp : w.heap.size ≤ p) (hp' : p < w'.heap.size) : Apart w' g v p := by
  refine ⟨hp', fun e => ?_, fun hh => ?_⟩
  · have := h.glt; omega
  · have := (h.mine.le p hh).2; omega
theorem Apart.cell {w w' : World} {g : Nat} {v v' : Value} {p : Nat} (h : Apart w g v p) (hk : ∀ ex, Kr w ([g] ++ (own v ++ ex)) w' ([g] ++ (own v' ++ ex))) (o : Nat) : w'.cell? ⟨p, o, none⟩ = w.cell? ⟨p, o, none⟩ := (hk []).cell h.lt h.not o

set_option maxHeartbeats 4000000 in
theorem wterm_ok (w : World) (base g : Nat) (v : Value) (bs : List Nat) (ex : List Nat) (p : Nat) (s1 : Bool) (A1 : Option Addr) (n1 c1 : Nat) (s2 : Bool) (A2 : Option Addr) (n2 c2 : Nat) (e0 e1 e2 e3 e4 e5 e6 e7 : Int) (q : Rat) (hs : WS w base g v bs) (hx : RQ w ([g] ++ (own v ++ ex)) s1 A1 n1 c1 s2 A2 n2 c2 q) (hm : Exps [e0, e1, e2, e3, e4, e5, e6, e7]) (hp : Apart w g v p) (hc : w.cell? ⟨p, 0, none⟩ = some (.pointer (some ⟨g, 0, none⟩))) (hl : bs.length + (termB (q, [e0, e1, e2, e3, e4, e5, e6, e7])).length ≤ 10000000000) :
    Calls Tryz.prog 226 #[.agg #[.bool s1, .slice A1 n1 c1, .bool s2, .slice A2 n2 c2, .int .i64 e0, .int .i64 e1, .int .i64 e2, .int .i64 e3, .int .i64 e4, .int .i64 e5, .int .i64 e6, .int .i64 e7], .pointer (some ⟨p, 0, none⟩)] w (RetWr w base g v (bs ++ termB (q, [e0, e1, e2, e3, e4, e5, e6, e7]))) := by
  have HS := Lib.hid hs
  have HX := Lib.hid hx
  have HM := Lib.hid hm
  have HL := Lib.hid (show bs.length + (ratB q).length + (monB [e0, e1, e2, e3, e4, e5, e6, e7]).length ≤ 10000000000 by
    have e : (termB (q, [e0, e1, e2, e3, e4, e5, e6, e7])).length = (ratB q).length + (monB [e0, e1, e2, e3, e4, e5, e6, e7]).length := by unfold termB; rw [List.length_append]
    omega)
  have HP := Lib.hid hp
  have hplt := hp.lt
  clear hs hx hl hm
  go_enter Tryz.func226, Tryz.ntmps226
  go_wp2_with fail
  refine wp_abs (fun W1 => Below w.heap.size w W1 ∧ w.heap.size < W1.heap.size ∧ W1.cell? ⟨w.heap.size, 0, none⟩ = some (.bool s1) ∧ W1.cell? ⟨w.heap.size, 1, none⟩ = some (.slice A1 n1 c1) ∧ W1.cell? ⟨w.heap.size, 2, none⟩ = some (.bool s2) ∧ W1.cell? ⟨w.heap.size, 3, none⟩ = some (.slice A2 n2 c2) ∧ W1.cell? ⟨w.heap.size, 4, none⟩ = some (.int .i64 e0) ∧ W1.cell? ⟨w.heap.size, 5, none⟩ = some (.int .i64 e1) ∧ W1.cell? ⟨w.heap.size, 6, none⟩ = some (.int .i64 e2) ∧ W1.cell? ⟨w.heap.size, 7, none⟩ = some (.int .i64 e3) ∧ W1.cell? ⟨w.heap.size, 8, none⟩ = some (.int .i64 e4) ∧ W1.cell? ⟨w.heap.size, 9, none⟩ = some (.int .i64 e5) ∧ W1.cell? ⟨w.heap.size, 10, none⟩ = some (.int .i64 e6) ∧ W1.cell? ⟨w.heap.size, 11, none⟩ = some (.int .i64 e7))
    ⟨(by repeat (first | (with_reducible exact Below.refl _ _) | (with_reducible assumption) | refine Below.setCell ?_ (by first | (simp; done) | (simp; omega) | omega) _ | refine Below.more ?_ (by first | (simp; done) | (simp; omega) | omega) _ _ | refine Below.alloc ?_ (by first | (simp; done) | (simp; omega) | omega) _ | refine Below.drew ?_ | refine Below.drewN ?_ _)), by simp, by simp [go_sem, ↓IntWalk.iteOmega], by simp [go_sem, ↓IntWalk.iteOmega], by simp [go_sem, ↓IntWalk.iteOmega], by simp [go_sem, ↓IntWalk.iteOmega], by simp [go_sem, ↓IntWalk.iteOmega], by simp [go_sem, ↓IntWalk.iteOmega], by simp [go_sem, ↓IntWalk.iteOmega], by simp [go_sem, ↓IntWalk.iteOmega], by simp [go_sem, ↓IntWalk.iteOmega], by simp [go_sem, ↓IntWalk.iteOmega], by simp [go_sem, ↓IntWalk.iteOmega], by simp [go_sem, ↓IntWalk.iteOmega]⟩ ?_
  rintro W1 ⟨hB1, hS1, b0, b1, b2, b3, x0, x1, x2, x3, x4, x5, x6, x7⟩
  have hpc := (hB1.at0 hplt 0).trans hc
  have HF := Lib.hid (HS.out.far (Nat.le_refl _))
  clear hc
  go_cut [] (fun w' => ∃ v', WS w' base g v' (bs ++ ratB q) ∧ (∀ ex, Kr W1 ([g] ++ (own v ++ ex)) w' ([g] ++ (own v' ++ ex))) ∧ Below g w w')
  case first =>
    go_region_held3 (fun w' => w'.cell? ⟨p, 0, none⟩ = some (.pointer (some ⟨g, 0, none⟩)) ∧ w'.cell? ⟨w.heap.size, 0, none⟩ = some (.bool s1) ∧ w'.cell? ⟨w.heap.size, 0 + 1, none⟩ = some (.slice A1 n1 c1) ∧ w'.cell? ⟨w.heap.size, 0 + 2, none⟩ = some (.bool s2) ∧ w'.cell? ⟨w.heap.size, 0 + 3, none⟩ = some (.slice A2 n2 c2))
      ((repeat' apply And.intro) <;> first | (simp [*, go_sem, ↓IntWalk.iteOmega]; done) | (refine got_of ?_; simp [*, go_sem, ↓IntWalk.iteOmega]; done))
      (first | (go_at_call 227; refine (wrational_ok _ base g v bs ex s1 A1 n1 c1 s2 A2 n2 c2 q (HS.out.keep (by repeat (first | (with_reducible exact Below.refl _ _) | (with_reducible assumption) | refine Below.setCell ?_ (by first | (simp; done) | (simp; omega) | omega) _ | refine Below.more ?_ (by first | (simp; done) | (simp; omega) | omega) _ _ | refine Below.alloc ?_ (by first | (simp; done) | (simp; omega) | omega) _ | refine Below.drew ?_ | refine Below.drewN ?_ _))) (HX.out.mono (Kr.of_below (by repeat (first | (with_reducible exact Below.refl _ _) | (with_reducible assumption) | refine Below.setCell ?_ (by first | (simp; done) | (simp; omega) | omega) _ | refine Below.more ?_ (by first | (simp; done) | (simp; omega) | omega) _ _ | refine Below.alloc ?_ (by first | (simp; done) | (simp; omega) | omega) _ | refine Below.drew ?_ | refine Below.drewN ?_ _)) _)) (by have := HL.out; omega)).mono ?_; rintro e w2 ⟨v2, rfl, hw2, hk2, hb2⟩; have f0 := (hk2 []).cell (b := p) (by first | (simp; done) | (simp; omega) | omega) HP.out.not 0; have f1 := fun o => (hk2 []).cell (b := w.heap.size) (by first | (simp; done) | (simp; omega) | omega) HF.out o))
    all_goals (rename_i hHeldZ; clear hHeldZ)
    all_goals
      go_wp2_with fail
      go_meet
      case rel => exact ⟨v2, hw2, fun ex' => (Kr.of_below (by repeat (first | (with_reducible exact Below.refl _ _) | (with_reducible assumption) | refine Below.setCell ?_ (by first | (simp; done) | (simp; omega) | omega) _ | refine Below.more ?_ (by first | (simp; done) | (simp; omega) | omega) _ _ | refine Below.alloc ?_ (by first | (simp; done) | (simp; omega) | omega) _ | refine Below.drew ?_ | refine Below.drewN ?_ _)) _).trans (hk2 ex'), ((show Below w.heap.size w _ from (by repeat (first | (with_reducible exact Below.refl _ _) | (with_reducible assumption) | refine Below.setCell ?_ (by first | (simp; done) | (simp; omega) | omega) _ | refine Below.more ?_ (by first | (simp; done) | (simp; omega) | omega) _ _ | refine Below.alloc ?_ (by first | (simp; done) | (simp; omega) | omega) _ | refine Below.drew ?_ | refine Below.drewN ?_ _))).mono (Nat.le_of_lt HS.out.glt)).trans hb2⟩
  case rest =>
    obtain ⟨v1, hw1, hk1, hb1⟩ := hcut
    have y0 := ((hk1 []).cell (b := w.heap.size) hS1 HF.out 4).trans x0
    have y1 := ((hk1 []).cell (b := w.heap.size) hS1 HF.out 5).trans x1
    have y2 := ((hk1 []).cell (b := w.heap.size) hS1 HF.out 6).trans x2
    have y3 := ((hk1 []).cell (b := w.heap.size) hS1 HF.out 7).trans x3
    have y4 := ((hk1 []).cell (b := w.heap.size) hS1 HF.out 8).trans x4
    have y5 := ((hk1 []).cell (b := w.heap.size) hS1 HF.out 9).trans x5
    have y6 := ((hk1 []).cell (b := w.heap.size) hS1 HF.out 10).trans x6
    have y7 := ((hk1 []).cell (b := w.heap.size) hS1 HF.out 11).trans x7
    have pc := ((hk1 []).cell (b := p) (Nat.lt_trans hplt hS1) HP.out.not 0).trans hpc
    have hkw : ∀ ex, Kr w ([g] ++ (own v ++ ex)) wc ([g] ++ (own v1 ++ ex)) := fun ex => (Kr.of_below hB1 _).trans (hk1 ex)
    have HP1 := Lib.hid (HP.out.kr hkw)
    clear hk1 hpc b0 b1 b2 b3 x0 x1 x2 x3 x4 x5 x6 x7 HX
    go_wp2_with fail
    clear y0 y1 y2 y3 y4 y5 y6 y7
    go_loopw [13] (fun i wr => ∃ (k : Nat) (v' : Value), k ≤ 8 ∧ i = .int .i64 k ∧ WS wr base g v' (bs ++ ratB q ++ monB ([e0, e1, e2, e3, e4, e5, e6, e7].take k)) ∧ (∀ ex, Kr wc ([g] ++ (own v1 ++ ex)) wr ([g] ++ (own v' ++ ex))) ∧ Below g w wr) (fun i _ => 8 - (intOf i).toNat)
    case atStart => exact ⟨0, v1, Nat.zero_le _, rfl, by simpa [monB] using hw1, fun _ => Kr.refl _ _, hb1⟩
    case round =>
      obtain ⟨k, v', hk, rfl, hw, hkr, hb⟩ := hrel
      by_cases hlt : k < 8
      · have hidx := idx8 e0 e1 e2 e3 e4 e5 e6 e7 k hlt
        have hbe := HM.out k
        have hpc := (HP1.out.cell hkr 0).trans pc
        have HT := Lib.hid (show bs ++ ratB q ++ monB ([e0, e1, e2, e3, e4, e5, e6, e7].take (k + 1)) = bs ++ ratB q ++ monB ([e0, e1, e2, e3, e4, e5, e6, e7].take k) ++ natB ([e0, e1, e2, e3, e4, e5, e6, e7].getD k 0).toNat by
          rw [monB_take _ (by simpa using hlt)]; simp only [List.append_assoc])
        have hll : (bs ++ ratB q ++ monB ([e0, e1, e2, e3, e4, e5, e6, e7].take k) ++ natB ([e0, e1, e2, e3, e4, e5, e6, e7].getD k 0).toNat).length ≤ 10000000000 := by
          rw [← HT.out, List.length_append, List.length_append]
          have := monB_take_le [e0, e1, e2, e3, e4, e5, e6, e7] (k + 1)
          have := HL.out
          omega
        obtain ⟨x, hx⟩ : ∃ x : Int, [e0, e1, e2, e3, e4, e5, e6, e7].getD k 0 = x := ⟨_, rfl⟩
        rw [hx] at hidx hbe HT hll
        clear hx
        obtain ⟨y, rfl⟩ := Int.eq_ofNat_of_zero_le hbe.1
        rw [Int.toNat_natCast] at HT hll
        have hy : y ≤ 65535 := by have := hbe.2; omega
        have hi1 : (k : Int) < 8 := by omega
        rw [List.length_append] at hll
        have HC := Lib.hid (wnat_ok wr base g v' _ y hw (by omega) hll)
        clear hw hll hbe
        go_wp2_with fail
        refine HC.out.mono ?_; rintro e w2 ⟨v2, rfl, hw2, hk2, hb2⟩
        go_wp2_with fail
        go_roundw
        case rel => exact ⟨k + 1, v2, by omega, by go_num, by rw [HT.out]; exact hw2, fun ex' => (hkr ex').trans (hk2 ex'), hb.trans hb2⟩
        case measure => simp [intOf]; omega
      · obtain rfl : k = 8 := by omega
        go_wp2_with fail
        go_end0
        refine ⟨v', rfl, ?_, fun ex' => (hkw ex').trans (hkr ex'), hb⟩
        have e : bs ++ termB (q, [e0, e1, e2, e3, e4, e5, e6, e7]) = bs ++ ratB q ++ monB ([e0, e1, e2, e3, e4, e5, e6, e7].take 8) := by
          unfold termB; rw [List.append_assoc]; rfl
        rw [e]; exact hw

end Go.Proofs.YthhdleppkggepaaGreat
