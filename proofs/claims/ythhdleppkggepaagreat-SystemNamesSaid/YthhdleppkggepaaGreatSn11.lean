/-
  The walks of the reference of package integer: differences, products.
-/
import Derived.Test.YthhdleppkggepaaGreatSn10

set_option linter.unusedSimpArgs false
set_option linter.unusedVariables false
set_option linter.unusedSectionVars false

namespace Go.Proofs.YthhdleppkggepaaGreat
open Go.RowKit Go.Deep
set_option maxRecDepth 100000

set_option maxHeartbeats 1000000 in
theorem r1taken_ok (w : World) (ex : List Nat) (A1 : Option Addr) (n1 c1 : Nat) (a : Nat) (A2 : Option Addr) (n2 c2 : Nat) (b : Nat)
    (hx : RW w ex A1 n1 c1 (digits a)) (hy : RW w ex A2 n2 c2 (digits b)) (hle : b ≤ a) (hn1 : n1 ≤ 100000000) (hex : ∀ b ∈ ex, b < w.heap.size) :
    Calls Tryz.prog 115 #[.slice A1 n1 c1, .slice A2 n2 c2] w (RetW w ex (digits (a - b))) := by
  have HX := Lib.hid hx.len
  have HY := Lib.hid hy.len
  have hn2 : n2 ≤ n1 := by have h1 := hx.len; have h2 := hy.len; have := length_digits_mono hle; omega
  have HEX := Lib.hid hex
  clear hex
  have hmk := makeU32 (n1 : Int) n1 rfl (by omega)
  go_enter Tryz.func115, Tryz.ntmps115
  go_wp2_with fail
  go_loopw [6, 7] (fun c i wr => ∃ (j cy : Nat) (os : List Nat), j ≤ n1 ∧ i = .int .i64 j ∧ c = .int .u64 cy ∧ cy ≤ 1 ∧ Buf 192 wr w.heap.size os ∧ Hid (os.length = n1) ∧ Wd os ∧
      Hid (val (os.take j) + val ((digits b).take j) = val ((digits a).take j) + 4294967296 ^ j * cy) ∧ Below w.heap.size w wr) (fun _ i _ => n1 - (intOf i).toNat)
  case atStart =>
    exact ⟨0, 0, _, Nat.zero_le _, rfl, rfl, by omega, Buf.new _ _ _, List.length_replicate, wd_replicate _, rfl, (Below.refl _ _).alloc (Nat.le_refl _) _⟩
  case round =>
    clear hmk
    obtain ⟨j, cy, os, hj, rfl, rfl, hcy, hbuf, HO, hwd, HV, hb⟩ := hrel
    have hxw := hx.mono (Kr.of_below hb ex)
    have hyw := hy.mono (Kr.of_below hb ex)
    have hgx := getD_lt hx.wd j
    have hgy := getD_lt hy.wd j
    by_cases hlt : j < n1
    · have hjo : j < os.length := by have := HO.out; omega
      have hjx : j < (digits a).length := by have := HX.out; omega
      have hcell := hbuf.cell hjo
      have hfroz := hbuf.frozen j
      obtain ⟨bx, ox, rfl, hbx, hcx⟩ := hxw.at_ (by omega)
      have hcellx := hcx j hjx
      have hbxl : bx < w.heap.size := hx.lt (by omega)
      have HCX := Lib.hid hcx; clear hcx
      have hGX : Hid ((digits a).getD j 0 = (digits a)[j]) := by
        show _ = _
        rw [List.getD_eq_getElem?_getD, List.getElem?_eq_getElem hjx]; rfl
      obtain ⟨x, hX⟩ : ∃ x : Nat, (digits a)[j] = x := ⟨_, rfl⟩
      have hxl : x < 4294967296 := by rw [← hX]; exact wd_digits a _ (List.getElem_mem hjx)
      rw [hX] at hcellx
      have HXj := Lib.hid hX; clear hX
      obtain ⟨y, hY⟩ : ∃ y : Nat, (digits b).getD j 0 = y := ⟨_, rfl⟩
      rw [hY] at hgy
      have HYj := Lib.hid hY; clear hY
      obtain ⟨s, hs⟩ : ∃ s : Nat, (4294967296 + (x : Int) - y - cy) % 4294967296 = (s : Int) := ⟨((4294967296 + (x : Int) - y - cy) % 4294967296).toNat, by omega⟩
      obtain ⟨q, hq⟩ : ∃ q : Nat, 1 - (4294967296 + (x : Int) - y - cy) / 4294967296 = (q : Int) := ⟨(1 - (4294967296 + (x : Int) - y - cy) / 4294967296).toNat, by omega⟩
      have hsl : s < 4294967296 := by omega
      have hql : q ≤ 1 := by omega
      have HE : Hid (s + y + cy = x + 4294967296 * q) := by show _ = _; omega
      go_wp2_with fail
      go_region_held3 (fun w' => w'.cell? ⟨bx, ox + j, none⟩ = some (.int .u32 x))
        ((repeat' apply And.intro) <;> first | (simp [*, go_sem, ↓IntWalk.iteOmega]; done) | (refine got_of ?_; simp [*, go_sem, ↓IntWalk.iteOmega]; done))
        (first | (go_at_call 162; refine (r1word_ok _ ex _ _ _ (digits b) (by first | exact hyw | exact hyw.mono ((Kr.refl _ _).drew)) _ (by omega)).mono ?_; rintro e w1 ⟨rfl, rfl⟩; rw [Int.toNat_natCast, HYj.out]))
      go_wp2_with fail
      go_roundw
      case rel =>
        refine ⟨j + 1, q, os.set j s, by omega, by go_num, (by first | rfl | rw [hq]), hql, (by first | exact (hbuf.set j s).of rfl | (rw [hs]; exact (hbuf.set j s).of rfl)), by simpa using HO, hwd.set j hsl, ?_, (hb.setCell (Nat.le_refl _) _).drew⟩
        exact sub_step hjo (hGX.out.trans HXj.out) HYj.out HV.out HE.out
      case measure => simp [intOf]; omega
    · obtain rfl : n1 = j := by omega
      go_wp2_with fail
      have hrw : RW wr ex (some ⟨w.heap.size, 0, none⟩) n1 n1 os := hbuf.rw_ (fun h => absurd (HEX.out _ h) (by omega)) hwd (by have := HO.out; omega) (Nat.le_refl _)
      refine (r1trim_ok _ ex _ _ _ _ hrw (by omega)).mono ?_; rintro e w1 ⟨m, rfl, rfl, hres⟩
      go_wp2_with fail
      go_ret
      have hval : val os = a - b := by
        have := sub_end hwd HO.out HX.out.symm (by have := HY.out; omega) HV.out (by rw [val_digits, val_digits]; exact hle)
        rwa [val_digits, val_digits] at this
      rw [hval] at hres
      exact RetW.mk rfl hb hres

set_option maxHeartbeats 2000000 in
theorem r1times_ok (w : World) (ex : List Nat) (A1 : Option Addr) (n1 c1 : Nat) (xs : List Nat) (A2 : Option Addr) (n2 c2 : Nat) (ys : List Nat)
    (hx : RW w ex A1 n1 c1 xs) (hy : RW w ex A2 n2 c2 ys) (hn1 : n1 ≤ 100000000) (hn2 : n2 ≤ 100000000) (hex : ∀ b ∈ ex, b < w.heap.size) :
    Calls Tryz.prog 116 #[.slice A1 n1 c1, .slice A2 n2 c2] w (RetW w ex (digits (val xs * val ys))) := by
  have HX := Lib.hid hx.len
  have HY := Lib.hid hy.len
  have HEX := Lib.hid hex
  clear hex
  have hmk := makeU32 ((n1 : Int) + (n2 : Int)) (n1 + n2) (by omega) (by omega)
  go_enter Tryz.func116, Tryz.ntmps116
  go_wp2_with fail
  go_loopw [6] (fun i wr => ∃ (j : Nat) (os : List Nat), j ≤ n1 ∧ i = .int .i64 j ∧ Buf 192 wr w.heap.size os ∧ Hid (os.length = n1 + n2) ∧ Wd os ∧
      Hid (val (os.take (j + n2)) = val (xs.take j) * val ys) ∧ Below w.heap.size w wr) (fun i _ => n1 - (intOf i).toNat)
  case atStart =>
    refine ⟨0, _, Nat.zero_le _, rfl, Buf.new _ _ _, List.length_replicate, wd_replicate _, ?_, (Below.refl _ _).alloc (Nat.le_refl _) _⟩
    show _ = _
    rw [List.take_replicate, val_replicate_zero]; simp [val]
  case round =>
    clear hmk
    obtain ⟨j, os0, hj, rfl, hbuf0, HO0, hwd0, HV0, hb0⟩ := hrel
    obtain ⟨wo, rfl⟩ : ∃ wo : World, wo = wr := ⟨_, rfl⟩
    have hxw := hx.mono (Kr.of_below hb0 ex)
    by_cases hlt : j < n1
    · have hjx : j < xs.length := by have := HX.out; omega
      obtain ⟨bx, ox, rfl, hbx, hcx⟩ := hxw.at_ (by omega)
      have hcellx := hcx j hjx
      have HCX := Lib.hid hcx; clear hcx
      have hGX : Hid (xs.getD j 0 = xs[j]) := by
        show _ = _
        rw [List.getD_eq_getElem?_getD, List.getElem?_eq_getElem hjx]; rfl
      obtain ⟨a, hA⟩ : ∃ a : Nat, xs[j] = a := ⟨_, rfl⟩
      have hal : a < 4294967296 := by rw [← hA]; exact hx.wd _ (List.getElem_mem hjx)
      rw [hA] at hcellx
      have HAj := Lib.hid hA; clear hA
      go_wp2_with fail
      go_loopw [7, 8] (fun c i wr => ∃ (k cy : Nat) (os : List Nat), k ≤ n2 ∧ i = .int .i64 k ∧ c = .int .u64 cy ∧ cy < 4294967296 ∧ Buf 192 wr w.heap.size os ∧ Hid (os.length = n1 + n2) ∧ Wd os ∧
          Hid (val (os.take (j + k)) + 4294967296 ^ (j + k) * cy = val (os0.take (j + k)) + 4294967296 ^ j * (a * val (ys.take k))) ∧
          Hid (∀ i, j + k ≤ i → os[i]? = os0[i]?) ∧ Below w.heap.size w wr) (fun _ i _ => n2 - (intOf i).toNat)
      case atStart =>
        refine ⟨0, 0, os0, Nat.zero_le _, rfl, rfl, by omega, hbuf0, HO0, hwd0, ?_, fun _ _ => rfl, hb0⟩
        show _ = _
        simp [val]
      case round =>
        obtain ⟨k, cy, os, hk, rfl, rfl, hcy, hbuf, HO, hwd, HV, HSame, hb⟩ := hrel
        have hyw := hy.mono (Kr.of_below hb ex)
        by_cases hlt2 : k < n2
        · have hjo : j + k < os.length := by have := HO.out; omega
          have hky : k < ys.length := by have := HY.out; omega
          have hcell := hbuf.cell hjo
          have hfroz := hbuf.frozen (j + k)
          obtain ⟨o, hO⟩ : ∃ o : Nat, os[j + k] = o := ⟨_, rfl⟩
          have hol : o < 4294967296 := by rw [← hO]; exact hwd _ (List.getElem_mem hjo)
          rw [hO] at hcell
          have HOo := Lib.hid hO; clear hO
          obtain ⟨by_, oy, rfl, hby, hcy_⟩ := hyw.at_ (by omega)
          have hcelly := hcy_ k hky
          have HCY := Lib.hid hcy_; clear hcy_
          have hGY : Hid (ys.getD k 0 = ys[k]) := by
            show _ = _
            rw [List.getD_eq_getElem?_getD, List.getElem?_eq_getElem hky]; rfl
          obtain ⟨y, hY⟩ : ∃ y : Nat, ys[k] = y := ⟨_, rfl⟩
          have hyl : y < 4294967296 := by rw [← hY]; exact hy.wd _ (List.getElem_mem hky)
          rw [hY] at hcelly
          have HYk := Lib.hid hY; clear hY
          obtain ⟨p, hp⟩ : ∃ p : Nat, a * y = p := ⟨_, rfl⟩
          have hpl : p ≤ 18446744065119617025 := by rw [← hp]; exact mul_word hal hyl
          have hpi : (a : Int) * (y : Int) = (p : Int) := by rw [← hp]; rfl
          obtain ⟨s, hs⟩ : ∃ s : Nat, ((p : Int) + o + cy) % 4294967296 = (s : Int) := ⟨(p + o + cy) % 4294967296, by omega⟩
          obtain ⟨q, hq⟩ : ∃ q : Nat, ((p : Int) + o + cy) / 4294967296 = (q : Int) := ⟨(p + o + cy) / 4294967296, by omega⟩
          have hsl : s < 4294967296 := by omega
          have hql : q < 4294967296 := by omega
          have HE : Hid (cy + (a * y + o) = s + 4294967296 * q) := by show _ = _; rw [hp]; omega
          have HP := Lib.hid hp; clear hp
          obtain ⟨bx2, ox2, he2, _, hcx2⟩ := (hx.mono (Kr.of_below hb ex)).at_ (by omega)
          cases he2
          have hcellx2 := hcx2 j hjx
          rw [HAj.out] at hcellx2
          clear hcx2
          go_wp2_with fail
          go_quiet (fail)
          go_wp2_with fail
          go_roundw
          case rel =>
            refine ⟨k + 1, q, os.set (j + k) s, by omega, by go_num, (by first | rfl | rw [hq]), hql, (by first | exact (hbuf.set (j + k) s).of rfl | (rw [hs]; exact (hbuf.set (j + k) s).of rfl)), by simpa using HO, hwd.set _ hsl, ?_, ?_, (by first | exact (hb.setCell (Nat.le_refl _) _).drew | exact (Below.drewN hb _).setCell (Nat.le_refl _) _ | exact hb.drew.setCell (Nat.le_refl _) _)⟩
            · exact mul_step hjo (HO.out.trans HO0.out.symm) (hGY.out.trans HYk.out) HOo.out HSame.out HV.out HE.out
            · intro i hi
              rw [List.getElem?_set_ne (by omega)]
              exact HSame.out i (by omega)
          case measure => simp [intOf]; omega
        · obtain rfl : n2 = k := by omega
          have hjo : j + n2 < os.length := by have := HO.out; omega
          have hcell := hbuf.cell hjo
          have hfroz := hbuf.frozen (j + n2)
          have hcyi : (cy : Int) % 4294967296 = cy := by omega
          go_wp2_with fail
          go_roundw
          case rel =>
            refine ⟨j + 1, os.set (j + n2) cy, by omega, by go_num, hbuf.set (j + n2) cy, by simpa using HO, hwd.set _ hcy, ?_, hb.setCell (Nat.le_refl _) _⟩
            have h1 := HV.out
            rw [List.take_of_length_le (l := ys) (by have := HY.out; omega)] at h1
            exact mul_row hjo (hGX.out.trans HAj.out) HV0.out h1
          case measure => simp [intOf]; omega
    · obtain rfl : n1 = j := by omega
      go_wp2_with fail
      have hrw : RW wo ex (some ⟨w.heap.size, 0, none⟩) (n1 + n2) (n1 + n2) os0 := hbuf0.rw_ (fun h => absurd (HEX.out _ h) (by omega)) hwd0 (by have := HO0.out; omega) (Nat.le_refl _)
      refine (r1trim_ok _ ex _ _ _ _ hrw (by omega)).mono ?_; rintro e w1 ⟨m, rfl, rfl, hres⟩
      go_wp2_with fail
      go_ret
      have hval : val os0 = val xs * val ys := by
        have := HV0.out
        rwa [List.take_of_length_le (l := os0) (by have := HO0.out; omega), List.take_of_length_le (l := xs) (by have := HX.out; omega)] at this
      rw [hval] at hres
      exact RetW.mk rfl hb0 hres


theorem val_two {n a b : Nat} (ha : (n : Int) % 4294967296 = (a : Int)) (hb : (n : Int) / 4294967296 = (b : Int)) : val [a, b] = n := by
  simp only [val]; omega

set_option maxHeartbeats 400000 in
theorem r1words_ok (w : World) (ex : List Nat) (n : Nat) (hn : n < 18446744073709551616) (hex : ∀ b ∈ ex, b < w.heap.size) :
    Calls Tryz.prog 112 #[.int .u64 n] w (RetW w ex (digits n)) := by
  obtain ⟨a, ha⟩ : ∃ a : Nat, (n : Int) % 4294967296 = (a : Int) := ⟨n % 4294967296, by omega⟩
  obtain ⟨b, hb⟩ : ∃ b : Nat, (n : Int) / 4294967296 = (b : Int) := ⟨n / 4294967296, by omega⟩
  have hal : a < 4294967296 := by omega
  have hbl : b < 4294967296 := by omega
  have hbm : (b : Int) % 4294967296 = (b : Int) := by omega
  have HV : Hid (val [a, b] = n) := val_two ha hb
  have hn0 : (0 : Int) ≤ n := by omega
  have hrow : RW (w.alloc (.cells #[.int .u32 a, .int .u32 b] 192)) ex (some ⟨w.heap.size, 0, none⟩) 2 2 [a, b] := by
    refine ⟨rfl, Nat.le_refl _, fun _ => ⟨_, _, rfl, fun h => absurd (hex _ h) (by omega), fun i u hu => ?_⟩, fun x hx => ?_⟩
    · rw [Nat.zero_add, World.cell?_alloc_new]; simpa [u32s] using hu
    · simp at hx; rcases hx with rfl | rfl <;> assumption
  go_enter Tryz.func112, Tryz.ntmps112
  go_wp2_with fail
  refine (r1trim_ok _ _ _ _ _ _ hrow (by omega)).mono ?_; rintro e w1 ⟨m, rfl, rfl, hres⟩
  go_wp2_with fail
  go_ret
  rw [HV.out] at hres
  exact RetW.mk rfl (by repeat (first | (with_reducible exact Below.refl _ _) | (with_reducible assumption) | refine Below.setCell ?_ (by first | (simp; done) | (simp; omega) | omega) _ | refine Below.more ?_ (by first | (simp; done) | (simp; omega) | omega) _ _ | refine Below.alloc ?_ (by first | (simp; done) | (simp; omega) | omega) _ | refine Below.drew ?_ | refine Below.drewN ?_ _)) hres

theorem Kr.twin (w : World) (ex : List Nat) (O1 O2 : Obj) : Kr (w.alloc O1) ([w.heap.size] ++ ex) (w.alloc O2) ex :=
  ⟨by simp, fun b _ hx hh => hx (List.mem_append_right _ hh), fun b hb hx => by
    have hne : b ≠ w.heap.size := fun e => hx (by simp [e])
    have hlt : b < w.heap.size := by simp at hb; omega
    rw [Below.heap_alloc _ _ _ hlt, Below.heap_alloc _ _ _ hlt]⟩

set_option maxHeartbeats 400000 in
theorem r1made_ok (w : World) (ex : List Nat) (A : Option Addr) (n c : Nat) (ws : List Nat) (neg : Bool) (hx : RW w ex A n c ws) (hn : n ≤ 1000000000) :
    Calls Tryz.prog 111 #[.bool neg, .slice A n c] w (RetI w ex (if neg then -(val ws : Int) else val ws)) := by
  have h0 := hx.mono (Kr.fresh (l := [w.heap.size]) (w' := w.alloc (.cells #[.bool false, .slice none 0 0] 57)) (by repeat (first | (with_reducible exact Below.refl _ _) | (with_reducible assumption) | refine Below.setCell ?_ (by first | (simp; done) | (simp; omega) | omega) _ | refine Below.more ?_ (by first | (simp; done) | (simp; omega) | omega) _ _ | refine Below.alloc ?_ (by first | (simp; done) | (simp; omega) | omega) _ | refine Below.drew ?_ | refine Below.drewN ?_ _)) (by simp))
  cases neg
  · go_enter Tryz.func111, Tryz.ntmps111
    go_wp2_with fail
    refine (r1trim_ok _ _ _ _ _ _ h0 hn).mono ?_; rintro e w1 ⟨m, rfl, rfl, hres⟩
    go_wp2_with fail
    refine bodyPost_ret (v := .agg #[.bool false, .slice A m c]) (by simp [results, Tryz.results111, go_sem, ↓IntWalk.iteOmega]) rfl (RetI.mk rfl (by repeat (first | (with_reducible exact Below.refl _ _) | (with_reducible assumption) | refine Below.setCell ?_ (by first | (simp; done) | (simp; omega) | omega) _ | refine Below.more ?_ (by first | (simp; done) | (simp; omega) | omega) _ _ | refine Below.alloc ?_ (by first | (simp; done) | (simp; omega) | omega) _ | refine Below.drew ?_ | refine Below.drewN ?_ _)) ?_)
    refine ⟨by simp, ?_⟩
    simp only [Int.natAbs_natCast, Bool.false_eq_true, if_false]
    exact hres.mono (Kr.twin _ _ _ _)
  · go_enter Tryz.func111, Tryz.ntmps111
    go_wp2_with fail
    refine (r1trim_ok _ _ _ _ _ _ h0 hn).mono ?_; rintro e w1 ⟨m, rfl, rfl, hres⟩
    have HM : Hid (0 < m ↔ 0 < val ws) := by
      have h2 := hres.len
      have h3 : digits (val ws) = [] ↔ val ws = 0 := digits_eq_nil
      rw [← List.length_eq_zero_iff] at h3
      show _ ↔ _
      omega
    by_cases hz : 0 < m
    · go_wp2_with fail
      refine bodyPost_ret (v := .agg #[.bool true, .slice A m c]) (by simp [results, Tryz.results111, go_sem, ↓IntWalk.iteOmega]) rfl (RetI.mk rfl (by repeat (first | (with_reducible exact Below.refl _ _) | (with_reducible assumption) | refine Below.setCell ?_ (by first | (simp; done) | (simp; omega) | omega) _ | refine Below.more ?_ (by first | (simp; done) | (simp; omega) | omega) _ _ | refine Below.alloc ?_ (by first | (simp; done) | (simp; omega) | omega) _ | refine Below.drew ?_ | refine Below.drewN ?_ _)) ?_)
      have h4 := HM.out.1 hz
      refine ⟨by simp; omega, ?_⟩
      simp only [if_true, Int.natAbs_neg, Int.natAbs_natCast]
      exact hres.mono (Kr.twin _ _ _ _)
    · go_wp2_with fail
      refine bodyPost_ret (v := .agg #[.bool false, .slice A m c]) (by simp [results, Tryz.results111, go_sem, ↓IntWalk.iteOmega]) rfl (RetI.mk rfl (by repeat (first | (with_reducible exact Below.refl _ _) | (with_reducible assumption) | refine Below.setCell ?_ (by first | (simp; done) | (simp; omega) | omega) _ | refine Below.more ?_ (by first | (simp; done) | (simp; omega) | omega) _ _ | refine Below.alloc ?_ (by first | (simp; done) | (simp; omega) | omega) _ | refine Below.drew ?_ | refine Below.drewN ?_ _)) ?_)
      have h4 : val ws = 0 := by have := HM.out; omega
      refine ⟨by simp [h4], ?_⟩
      simp only [if_true, Int.natAbs_neg, Int.natAbs_natCast]
      exact hres.mono (Kr.twin _ _ _ _)

end Go.Proofs.YthhdleppkggepaaGreat

/-
  The walks of the reference of package integer: order, division by one word, greatest common divisors of words.
-/
namespace Go.Proofs.YthhdleppkggepaaGreat
open Go.RowKit Go.Deep
set_option maxRecDepth 100000

theorem cmpN_len_lt {a b : Nat} (h : (digits a).length < (digits b).length) : cmpN a b = -1 := by
  unfold cmpN; rw [if_pos (digits_lt_of_length h)]
theorem cmpN_len_gt {a b : Nat} (h : (digits b).length < (digits a).length) : cmpN a b = 1 := by
  have := digits_lt_of_length h
  unfold cmpN; rw [if_neg (by omega), if_pos this]

set_option maxHeartbeats 1000000 in
theorem r1compared_ok (w : World) (ex : List Nat) (A1 : Option Addr) (n1 c1 : Nat) (a : Nat) (A2 : Option Addr) (n2 c2 : Nat) (b : Nat)
    (hx : RW w ex A1 n1 c1 (digits a)) (hy : RW w ex A2 n2 c2 (digits b)) (hn : n1 ≤ 1000000000) (hn2 : n2 ≤ 1000000000) :
    Calls Tryz.prog 114 #[.slice A1 n1 c1, .slice A2 n2 c2] w fun e w' => e = .returned (.int .i64 (cmpN a b)) ∧ ∃ D, w' = w.drewN D := by
  have hl1 := hx.len
  have hl2 := hy.len
  by_cases hne : n1 = n2
  · subst hne
    have HL : Hid (n1 = (digits a).length ∧ n1 = (digits b).length) := ⟨hl1, hl2⟩
    clear hl1 hl2
    go_enter Tryz.func114, Tryz.ntmps114
    go_wp2_with fail
    go_loopw [5] (fun i wr => ∃ j : Nat, j ≤ n1 ∧ i = .int .i64 ((n1 : Int) - 1 - j) ∧ Hid ((digits a).drop (n1 - j) = (digits b).drop (n1 - j)) ∧ ∃ D, wr = w.drewN D) (fun i _ => ((intOf i) + 1).toNat)
    case atStart =>
      refine ⟨0, Nat.zero_le _, by simp, ?_, 0, rfl⟩
      show _ = _
      obtain ⟨h1, h2⟩ := HL.out
      rw [List.drop_of_length_le (by omega), List.drop_of_length_le (by omega)]
    case round =>
      obtain ⟨j, hj, rfl, HT, D, rfl⟩ := hrel
      by_cases hlt : j < n1
      · obtain ⟨bx, ox, rfl, hbx, hcx⟩ := hx.at_ (by omega)
        obtain ⟨by_, oy, rfl, hby, hcy⟩ := hy.at_ (by omega)
        obtain ⟨K, hK⟩ : ∃ K : Nat, (n1 : Int) - 1 - (j : Int) = (K : Int) := ⟨n1 - 1 - j, by omega⟩
        rw [hK]
        have hKn : K < n1 := by omega
        have hk1 : K < (digits a).length := by have := HL.out; omega
        have hk2 : K < (digits b).length := by have := HL.out; omega
        have hcellx := hcx _ hk1
        have hcelly := hcy _ hk2
        have HX := Lib.hid hcx; clear hcx
        have HY := Lib.hid hcy; clear hcy
        have HT2 : Hid ((digits a).drop (K + 1) = (digits b).drop (K + 1)) := by
          rw [show K + 1 = n1 - j from by omega]; exact HT
        have HKj := Lib.hid hK; clear hK
        obtain ⟨x, hx0⟩ : ∃ x : Nat, (digits a)[K] = x := ⟨_, rfl⟩
        obtain ⟨y, hy0⟩ : ∃ y : Nat, (digits b)[K] = y := ⟨_, rfl⟩
        rw [hx0] at hcellx
        rw [hy0] at hcelly
        have HX0 := Lib.hid hx0; clear hx0
        have HY0 := Lib.hid hy0; clear hy0
        rcases Nat.lt_trichotomy x y with hxy | hxy | hxy
        · go_wp2_with fail
          go_quiet (fail)
          go_wp2_with fail
          go_ret
          refine ⟨?_, (by first | exact ⟨_, rfl⟩ | (simp only [World.drewN_drewN]; exact ⟨_, rfl⟩))⟩
          obtain ⟨h1, h2⟩ := HL.out
          have h3 := HX0.out
          have h4 := HY0.out
          rw [← cmpZ_word (a := a) (b := b) (by omega) hk1 hk2 HT2.out (by omega), h3, h4]
          unfold cmpZ; rw [if_pos (by omega)]; rfl
        · have hq : ((x : Int) == (y : Int)) = true := by simp [hxy]
          go_wp2_with fail
          go_quiet (fail)
          go_wp2_with fail
          go_quiet (fail)
          go_wp2_with fail
          go_roundw
          case rel =>
            refine ⟨j + 1, by omega, (by have := HKj.out; go_num), ?_, (by first | exact ⟨_, rfl⟩ | (simp only [World.drewN_drewN]; exact ⟨_, rfl⟩))⟩
            show _ = _
            have h2 := HT2.out
            have h3 := HX0.out
            have h4 := HY0.out
            have h5 := HKj.out
            rw [show n1 - (j + 1) = K from by omega, List.drop_eq_getElem_cons hk1, List.drop_eq_getElem_cons hk2, h2, h3, h4, hxy]
          case measure => simp [intOf]
        · go_wp2_with fail
          go_quiet (fail)
          go_wp2_with fail
          go_quiet (fail)
          go_wp2_with fail
          go_ret
          refine ⟨?_, (by first | exact ⟨_, rfl⟩ | (simp only [World.drewN_drewN]; exact ⟨_, rfl⟩))⟩
          obtain ⟨h1, h2⟩ := HL.out
          have h3 := HX0.out
          have h4 := HY0.out
          rw [← cmpZ_word (a := a) (b := b) (by omega) hk1 hk2 HT2.out (by omega), h3, h4]
          unfold cmpZ; rw [if_neg (by omega), if_pos (by omega)]; rfl
      · obtain rfl : j = n1 := by omega
        go_wp2
        go_ret
        refine ⟨?_, _, rfl⟩
        have h := HT.out
        rw [Nat.sub_self, List.drop_zero, List.drop_zero] at h
        have hab : a = b := by rw [← val_digits a, ← val_digits b, h]
        subst hab
        simp [cmpN]
  · by_cases hlt : n1 < n2
    · have HC : Hid (cmpN a b = -1) := cmpN_len_lt (by omega)
      clear hl1 hl2
      go_enter Tryz.func114, Tryz.ntmps114
      go_wp2_with fail
      go_ret
      exact ⟨by rw [HC.out]; rfl, 0, rfl⟩
    · have HC : Hid (cmpN a b = 1) := cmpN_len_gt (by omega)
      clear hl1 hl2
      go_enter Tryz.func114, Tryz.ntmps114
      go_wp2_with fail
      go_ret
      exact ⟨by rw [HC.out]; rfl, 0, rfl⟩


end Go.Proofs.YthhdleppkggepaaGreat

/-
  The walks of the reference of package integer: order, division by one word, greatest common divisors of words.
-/
namespace Go.Proofs.YthhdleppkggepaaGreat
open Go.RowKit Go.Deep
set_option maxRecDepth 100000

/-- A slice of words and a number of 64 bits. -/
def RetWM (w : World) (ex : List Nat) (ws : List Nat) (k : Nat) (e : Ending) (w' : World) : Prop :=
  ∃ A m c X D, e = .returned (.tuple #[.slice A m c, .int .u64 k]) ∧ w' = w.more X D ∧ RW (w.more X D) ex A m c ws
theorem RetWM.mk {w w' : World} {ex ws : List Nat} {k : Nat} {A : Option Addr} {m c : Nat} {e : Ending} (he : e = .returned (.tuple #[.slice A m c, .int .u64 k])) (hb : Below w.heap.size w w') (hr : RW w' ex A m c ws) : RetWM w ex ws k e w' := by
  obtain ⟨X, D, rfl⟩ := World.more_of_below hb
  exact ⟨A, m, c, X, D, he, rfl, hr⟩

set_option maxHeartbeats 1000000 in
theorem r1shortly_ok (w : World) (ex : List Nat) (A : Option Addr) (n c : Nat) (xs : List Nat) (d : Nat) (hx : RW w ex A n c xs) (hd : 0 < d) (hdl : d < 4294967296) (hn : n ≤ 1000000000) (hex : ∀ b ∈ ex, b < w.heap.size) :
    Calls Tryz.prog 220 #[.slice A n c, .int .u64 d] w (RetWM w ex (digits (val xs / d)) (val xs % d)) := by
  have HX := Lib.hid hx.len
  have HEX := Lib.hid hex
  clear hex
  have hmk := makeU32 (n : Int) n rfl (by omega)
  have hd0 : ((d : Int) != 0) = true := by simp; omega
  have hd1 : ((d : Int) == 0) = false := by simp; omega
  go_enter Tryz.func220, Tryz.ntmps220
  go_wp2_with fail
  go_loopw [7, 8] (fun rs i wr => ∃ (j r : Nat) (os : List Nat), j ≤ n ∧ i = .int .i64 ((n : Int) - 1 - j) ∧ rs = .int .u64 r ∧ r < d ∧ Buf 192 wr w.heap.size os ∧ Hid (os.length = n) ∧ Wd os ∧
      Hid (val (xs.drop (n - j)) = val (os.drop (n - j)) * d + r) ∧ Below w.heap.size w wr) (fun _ i _ => ((intOf i) + 1).toNat)
  case atStart =>
    refine ⟨0, 0, _, Nat.zero_le _, by simp, rfl, hd, Buf.new _ _ _, List.length_replicate, wd_replicate _, ?_, (Below.refl _ _).alloc (Nat.le_refl _) _⟩
    show _ = _
    rw [Nat.sub_zero, List.drop_of_length_le (by have := HX.out; omega), List.drop_of_length_le (by simp)]; simp [val]
  case round =>
    clear hmk
    obtain ⟨j, r, os, hj, rfl, rfl, hr, hbuf, HO, hwd, HV, hb⟩ := hrel
    have hxw := hx.mono (Kr.of_below hb ex)
    by_cases hlt : j < n
    · obtain ⟨K, hK⟩ : ∃ K : Nat, (n : Int) - 1 - (j : Int) = (K : Int) := ⟨n - 1 - j, by omega⟩
      rw [hK]
      have hKn : K < n := by omega
      have hko : K < os.length := by have := HO.out; omega
      have hkx : K < xs.length := by have := HX.out; omega
      have hcell := hbuf.cell hko
      have hfroz := hbuf.frozen K
      obtain ⟨bx, ox, rfl, hbx, hcx⟩ := hxw.at_ (by omega)
      have hcellx := hcx K hkx
      have HCX := Lib.hid hcx; clear hcx
      have hbl := hx.lt (by omega)
      obtain ⟨x, hX⟩ : ∃ x : Nat, xs[K] = x := ⟨_, rfl⟩
      have hxl : x < 4294967296 := by rw [← hX]; exact hx.wd _ (List.getElem_mem hkx)
      rw [hX] at hcellx
      have HXj := Lib.hid hX; clear hX
      have HV2 : Hid (val (xs.drop (K + 1)) = val (os.drop (K + 1)) * d + r) := by
        rw [show K + 1 = n - j from by omega]; exact HV
      have hql : (r * 4294967296 + x) / d < 4294967296 := by
        rw [Nat.div_lt_iff_lt_mul hd]
        have := Nat.mul_le_mul_left 4294967296 (show r + 1 ≤ d from hr)
        omega
      have hrl : (r * 4294967296 + x) % d < d := Nat.mod_lt _ hd
      obtain ⟨T, hT⟩ : ∃ T : Nat, r * 4294967296 + x = T := ⟨_, rfl⟩
      have hTi : (r : Int) * 4294967296 + (x : Int) = (T : Int) := by omega
      rw [hT] at hql hrl
      obtain ⟨q, hq⟩ : ∃ q : Nat, T / d = q := ⟨_, rfl⟩
      obtain ⟨m, hm⟩ : ∃ m : Nat, T % d = m := ⟨_, rfl⟩
      rw [hq] at hql
      rw [hm] at hrl
      have hqi : (T : Int) / (d : Int) = (q : Int) := by rw [← hq]; rfl
      have hmi : (T : Int) % (d : Int) = (m : Int) := by rw [← hm]; rfl
      have hqw : (q : Int) % 4294967296 = (q : Int) := by omega
      have hTl : T ≤ 18446744073709551615 := by omega
      have HQ : Hid ((r * 4294967296 + x) / d = q) := by rw [hT]; exact hq
      have HM : Hid ((r * 4294967296 + x) % d = m) := by rw [hT]; exact hm
      have HKj := Lib.hid hK
      clear hT hq hm hK
      go_wp2_with fail
      go_roundw
      case rel =>
        refine ⟨j + 1, m, os.set K q, by omega, (by have := HKj.out; go_num), (by first | rfl | rw [hmi]), hrl, (hbuf.set K q).of rfl, by simpa using HO, hwd.set _ hql, ?_, hb.setCell (p := ⟨w.heap.size, K, none⟩) (Nat.le_refl _) (.int .u32 (q : Int))⟩
        show _ = _
        rw [show n - (j + 1) = K from by have := HKj.out; omega, ← HQ.out, ← HM.out]
        exact word_step hkx hko HXj.out HV2.out
      case measure => have := HKj.out; simp [intOf]
    · obtain rfl : n = j := by omega
      go_wp2_with fail
      have hrw : RW wr ex (some ⟨w.heap.size, 0, none⟩) n n os := hbuf.rw_ (fun h => absurd (HEX.out _ h) (by omega)) hwd (by have := HO.out; omega) (Nat.le_refl _)
      refine (r1trim_ok _ ex _ _ _ _ hrw (by omega)).mono ?_; rintro e w1 ⟨m, rfl, rfl, hres⟩
      go_wp2_with fail
      go_ret2
      have hv := HV.out
      rw [Nat.sub_self, List.drop_zero, List.drop_zero] at hv
      have h1 : val xs / d = val os := by rw [hv, Nat.mul_comm, Nat.mul_add_div hd, Nat.div_eq_of_lt hr]; simp
      have h2 : val xs % d = r := by rw [hv, Nat.mul_comm, Nat.mul_add_mod, Nat.mod_eq_of_lt hr]
      rw [h1, h2]
      exact RetWM.mk rfl hb hres

theorem val_number {ws : List Nat} (h : ws.length ≤ 2) : ws.getD 1 0 * 4294967296 + ws.getD 0 0 = val ws := by
  match ws, h with
  | [], _ => rfl
  | [a], _ => simp [val]
  | [a, b], _ => simp only [List.getD_cons_succ, List.getD_cons_zero, val]; omega

set_option maxHeartbeats 400000 in
theorem r1number_ok (w : World) (ex : List Nat) (A : Option Addr) (n c : Nat) (ws : List Nat) (hx : RW w ex A n c ws) (hn : n ≤ 2) :
    Calls Tryz.prog 200 #[.slice A n c] w fun e w' => e = .returned (.int .u64 (val ws : Nat)) ∧ w' = w := by
  have HV : Hid (ws.getD 1 0 * 4294967296 + ws.getD 0 0 = val ws) := val_number (by have := hx.len; omega)
  have h0 := getD_lt hx.wd 0
  have h1 := getD_lt hx.wd 1
  obtain ⟨x, hx0⟩ : ∃ x : Nat, ws.getD 0 0 = x := ⟨_, rfl⟩
  obtain ⟨y, hx1⟩ : ∃ y : Nat, ws.getD 1 0 = y := ⟨_, rfl⟩
  rw [hx0] at h0 HV
  rw [hx1] at h1 HV
  have HX0 := Lib.hid hx0
  have HX1 := Lib.hid hx1
  clear hx0 hx1
  go_enter Tryz.func200, Tryz.ntmps200
  go_wp2_with fail
  refine (r1word_ok w ex _ _ _ ws hx _ (by omega)).mono ?_; rintro e w1 ⟨rfl, rfl⟩
  rw [show (1 : Int).toNat = 1 from rfl, HX1.out]
  go_wp2_with fail
  refine (r1word_ok _ ex _ _ _ ws hx _ (by omega)).mono ?_; rintro e w1 ⟨rfl, rfl⟩
  rw [show (0 : Int).toNat = 0 from rfl, HX0.out]
  go_wp2_with fail
  go_ret
  exact ⟨by rw [← HV.out]; simp, rfl⟩

set_option maxHeartbeats 400000 in
theorem r1euclid_ok (w : World) (a b : Nat) (ha : a < 18446744073709551616) (hb : b < 18446744073709551616) :
    Calls Tryz.prog 199 #[.int .u64 a, .int .u64 b] w fun e w' => e = .returned (.int .u64 (Nat.gcd a b : Nat)) ∧ w' = w := by
  go_enter Tryz.func199, Tryz.ntmps199
  go_wp2_with fail
  go_loopg [0, 1] b (fun k u v wr => ∃ p : Nat, u = .int .u64 p ∧ v = .int .u64 k ∧ p < 18446744073709551616 ∧ k < 18446744073709551616 ∧ Hid (Nat.gcd p k = Nat.gcd a b) ∧ wr = w)
  case atStart => exact ⟨a, rfl, rfl, ha, hb, rfl, rfl⟩
  case round =>
    obtain ⟨p, rfl, rfl, hp, hk, HG, rfl⟩ := hrel
    by_cases hk0 : gk = 0
    · subst hk0
      have hz : ((0 : Nat) : Int) = 0 := rfl
      go_wp2_with fail
      go_ret
      have h := HG.out
      rw [Nat.gcd_zero_right] at h
      exact ⟨by rw [h]; rfl, rfl⟩
    · have hkp : 0 < gk := by omega
      obtain ⟨m, hm⟩ : ∃ m : Nat, p % gk = m := ⟨_, rfl⟩
      have hml := Nat.mod_lt p hkp
      rw [hm] at hml
      have hmi : (p : Int) % (gk : Int) = (m : Int) := by rw [← hm]; rfl
      have hd0 : ((gk : Int) != 0) = true := by simp; omega
      have hd1 : ((gk : Int) == 0) = false := by simp; omega
      have HM := Lib.hid hm; clear hm hk0
      go_wp2_with fail
      go_roundg m
      case measure => exact hml
      case rel =>
        refine ⟨gk, rfl, (by first | rfl | rw [hmi]), hk, by omega, ?_, rfl⟩
        show _ = _
        rw [← HG.out, ← HM.out, Nat.gcd_comm gk, ← Nat.gcd_rec, Nat.gcd_comm]


end Go.Proofs.YthhdleppkggepaaGreat

/-
  The walks of the reference of package integer: order, division by one word, greatest common divisors of words.
-/
namespace Go.Proofs.YthhdleppkggepaaGreat
open Go.RowKit Go.Deep
set_option maxRecDepth 100000

theorem RW.one {w : World} {ex : List Nat} {g : Nat} {x : Nat} (hex : ∀ b ∈ ex, b < g) (hx : x < 4294967296) (hc : w.cell? ⟨g, 0, none⟩ = some (.int .u32 (x : Int))) : RW w ex (some ⟨g, 0, none⟩) 1 1 [x] := by
  refine ⟨rfl, Nat.le_refl _, fun _ => ⟨_, _, rfl, fun h => absurd (hex _ h) (by omega), fun i u hu => ?_⟩, fun y hy => ?_⟩
  · rcases i with _ | i
    · simp [u32s] at hu; subst hu; exact hc
    · simp [u32s] at hu
  · simp at hy; subst hy; exact hx

set_option maxHeartbeats 1000000 in
theorem r1divided_ok (w : World) (ex : List Nat) (A1 : Option Addr) (n1 c1 : Nat) (a : Nat) (A2 : Option Addr) (n2 c2 : Nat) (b : Nat)
    (hx : RW w ex A1 n1 c1 (digits a)) (hy : RW w ex A2 n2 c2 (digits b)) (hb0 : 0 < b) (hw : Wee b) (hn1 : n1 ≤ 100000000) (hn2 : n2 ≤ 100000000) (hex : ∀ b ∈ ex, b < w.heap.size) :
    Calls Tryz.prog 190 #[.slice A1 n1 c1, .slice A2 n2 c2] w (RetWW w ex (digits (a / b)) (digits (a % b))) := by
  by_cases hlt : a < b
  · have hc := cmpN_neg hlt
    have HQ : Hid (a / b = 0 ∧ a % b = a) := ⟨Nat.div_eq_of_lt hlt, Nat.mod_eq_of_lt hlt⟩
    rw [HQ.out.1, HQ.out.2]
    go_enter Tryz.func190, Tryz.ntmps190
    go_wp2_with fail
    refine (r1compared_ok _ _ _ _ _ _ _ _ _ _ hx hy (by omega) (by omega)).mono ?_; rintro e w' ⟨rfl, D0, rfl⟩
    go_wp2_with fail
    go_ret2
    exact RetWW.mk rfl (by repeat (first | (with_reducible exact Below.refl _ _) | (with_reducible assumption) | refine Below.setCell ?_ (by first | (simp; done) | (simp; omega) | omega) _ | refine Below.more ?_ (by first | (simp; done) | (simp; omega) | omega) _ _ | refine Below.alloc ?_ (by first | (simp; done) | (simp; omega) | omega) _ | refine Below.drew ?_ | refine Below.drewN ?_ _)) (RW.nil _ _ _ _) (hx.mono (by repeat (first | (with_reducible exact Kr.refl _ _) | (with_reducible assumption) | refine Kr.setCell ?_ _ (by simp) | refine Kr.more ?_ _ _ | refine Kr.alloc_ ?_ _ | refine Kr.drew ?_ | refine Kr.drewN ?_ _)))
  · obtain ⟨v, hc, hv⟩ := cmpN_nonneg hlt
    have hdig : digits b = [b] := digits_small (by omega) hw
    have hn21 : n2 = 1 := by rw [hy.len, hdig]; rfl
    subst hn21
    obtain ⟨by_, oy, rfl, hby, hcy⟩ := hy.at_ (by omega)
    have hcelly : w.cell? ⟨by_, oy, none⟩ = some (.int .u32 (b : Int)) := by
      have := hcy 0 (by rw [hdig]; simp)
      simpa [hdig] using this
    have hbyl := hy.lt (by omega)
    have hbl : b < 4294967296 := hw
    clear hcy hdig
    go_enter Tryz.func190, Tryz.ntmps190
    go_wp2_with fail
    refine (r1compared_ok _ _ _ _ _ _ _ _ _ _ hx hy (by omega) (by omega)).mono ?_; rintro e w' ⟨rfl, D0, rfl⟩
    go_wp2_with fail
    refine (r1shortly_ok _ ex _ _ _ _ _ (hx.mono (by repeat (first | (with_reducible exact Kr.refl _ _) | (with_reducible assumption) | refine Kr.setCell ?_ _ (by simp) | refine Kr.more ?_ _ _ | refine Kr.alloc_ ?_ _ | refine Kr.drew ?_ | refine Kr.drewN ?_ _))) hb0 hbl (by omega) (hex0 hex (by first | (simp; done) | (simp; omega) | omega))).mono ?_; rintro e w' ⟨Aq, mq, cq, X, D, rfl, rfl, hq⟩
    rw [val_digits] at hq
    rw [val_digits]
    obtain ⟨r, hr⟩ : ∃ r : Nat, a % b = r := ⟨_, rfl⟩
    rw [hr]
    have hrl : r < 4294967296 := by rw [← hr]; exact Nat.lt_trans (Nat.mod_lt _ hb0) hbl
    have HR := Lib.hid hr
    clear hr
    go_wp2_with fail
    refine (r1words_ok _ ex r (by omega) (hex0 hex (by first | (simp; done) | (simp; omega) | omega))).mono ?_; rintro e w' ⟨Ar, mr, cr, X2, D2, rfl, rfl, hres⟩
    go_wp2_with fail
    go_ret2
    rw [HR.out]
    exact RetWW.mk rfl (by repeat (first | (with_reducible exact Below.refl _ _) | (with_reducible assumption) | refine Below.setCell ?_ (by first | (simp; done) | (simp; omega) | omega) _ | refine Below.more ?_ (by first | (simp; done) | (simp; omega) | omega) _ _ | refine Below.alloc ?_ (by first | (simp; done) | (simp; omega) | omega) _ | refine Below.drew ?_ | refine Below.drewN ?_ _)) (hq.mono (by repeat (first | (with_reducible exact Kr.refl _ _) | (with_reducible assumption) | refine Kr.setCell ?_ _ (by simp) | refine Kr.more ?_ _ _ | refine Kr.alloc_ ?_ _ | refine Kr.drew ?_ | refine Kr.drewN ?_ _))) hres


end Go.Proofs.YthhdleppkggepaaGreat
