/-
  The walks of package integer: sums and differences of absolute values.
-/
import Derived.Test.YthhdleppkggepaaGreatSb02
import Derived.Test.YthhdleppkggepaaGreatSb03

set_option linter.unusedSimpArgs false
set_option linter.unusedVariables false
set_option linter.unusedSectionVars false

namespace Go.Proofs.YthhdleppkggepaaGreat
open Go.RowKit Go.Deep

theorem infoU32 : (Tryz.prog.info? 192).map (fun i => (i.zero, i.size, i.bytes)) = some (some (.int .u32 0), 1, 4) := by kernel_rfl

theorem makeNat (k : Int) (n : Nat) (hk : k = (n : Int)) (hn : n ≤ 10000000000) (w : World) :
    (Instr.makeSlice 169 (.int .i64 k) (.int .i64 k)).run Tryz.prog w = .ok (.slice (some ⟨w.heap.size, 0, none⟩) n n) (w.alloc (.cells (madeCells #[.int .u32 0] n) 192)) := by
  subst hk
  exact run_make_row' (P := Tryz.prog) 169 192 (.int .u32 0) 4 Tryz.underlying169 infoU32 rfl .i64 .i64 n (by omega) (by omega) w

set_option maxRecDepth 100000
set_option maxHeartbeats 1000000 in
theorem add_ok (w : World) (ex : List Nat) (A1 : Option Addr) (n1 c1 : Nat) (xs : List Nat) (A2 : Option Addr) (n2 c2 : Nat) (ys : List Nat)
    (hx : RW w ex A1 n1 c1 xs) (hy : RW w ex A2 n2 c2 ys) (hn1 : n1 ≤ 100000000) (hn2 : n2 ≤ 100000000) (hex : ∀ b ∈ ex, b < w.heap.size) :
    Calls Tryz.prog 175 #[.slice A1 n1 c1, .slice A2 n2 c2] w fun e w' => ∃ A m c X D, e = .returned (.slice A m c) ∧ w' = w.more X D ∧ RW (w.more X D) ex A m c (digits (val xs + val ys)) := by
  have HX := Lib.hid hx.len
  have HY := Lib.hid hy.len
  have HEX := Lib.hid hex
  clear hex
  by_cases hle : n1 < n2
  · have hmk := makeNat ((n2 : Int) + 1) (n2 + 1) (by omega) (by omega)
    have hm1 : n1 ≤ n2 := by omega
    have hm2 : n2 ≤ n2 := by omega
    go_enter Tryz.func175, Tryz.ntmps175
    go_wp2_with fail
    go_loopw [7, 18] (fun c i wr => ∃ (j cy : Nat) (os : List Nat), j ≤ n2 ∧ i = .int .i64 j ∧ c = .int .u32 cy ∧ cy ≤ 1 ∧ Buf 192 wr w.heap.size os ∧ Hid (os.length = n2 + 1) ∧ Wd os ∧
        Hid (val (os.take j) + 4294967296 ^ j * cy = val (xs.take j) + val (ys.take j)) ∧ Below w.heap.size w wr) (fun _ i _ => n2 - (intOf i).toNat)
    case atStart =>
      exact ⟨0, 0, _, Nat.zero_le _, rfl, rfl, by omega, Buf.new _ _ _, List.length_replicate, wd_replicate _, rfl, (Below.refl _ _).alloc (Nat.le_refl _) _⟩
    case round =>
      clear hmk
      obtain ⟨j, cy, os, hj, rfl, rfl, hcy, hbuf, HO, hwd, HV, hb⟩ := hrel
      have hxw := hx.mono (Kr.of_below hb ex)
      have hyw := hy.mono (Kr.of_below hb ex)
      have hgx := getD_lt hx.wd j
      have hgy := getD_lt hy.wd j
      by_cases hlt : j < n2
      · have hjo : j < os.length := by have := HO.out; omega
        have hcell := hbuf.cell hjo
        have hfroz := hbuf.frozen j
        go_wp2_with fail
        refine (at_ok wr ex _ _ _ xs hxw _ (by omega)).mono ?_; rintro e w1 ⟨rfl, rfl⟩
        rw [Int.toNat_natCast]
        generalize hX : xs.getD j 0 = x at *
        have HXj := Lib.hid hX; clear hX
        go_wp2_with fail
        refine (at_ok _ ex _ _ _ ys hyw _ (by omega)).mono ?_; rintro e w1 ⟨rfl, rfl⟩
        rw [Int.toNat_natCast]
        generalize hY : ys.getD j 0 = y at *
        have HYj := Lib.hid hY; clear hY
        go_wp2_with fail
        refine (add32_ok _ _ _ _ (by omega) (by omega) (by omega) (by omega) (by omega) (by omega)).mono ?_; rintro e w1 ⟨rfl, rfl⟩
        obtain ⟨s, hs⟩ : ∃ s : Nat, ((x : Int) + y + cy) % 4294967296 = (s : Int) := ⟨(x + y + cy) % 4294967296, by omega⟩
        obtain ⟨q, hq⟩ : ∃ q : Nat, ((x : Int) + y + cy) / 4294967296 = (q : Int) := ⟨(x + y + cy) / 4294967296, by omega⟩
        have hsl : s < 4294967296 := by omega
        have hql : q ≤ 1 := by omega
        have HE : Hid (x + y + cy = s + 4294967296 * q) := by show _ = _; omega
        rw [hs, hq]
        clear hs hq
        go_wp2_with fail
        go_roundw
        case rel =>
          refine ⟨j + 1, q, os.set j s, by omega, by go_num, rfl, hql, hbuf.set j s, by simpa using HO, hwd.set j hsl, ?_, hb.setCell (Nat.le_refl _) _⟩
          exact add_step hjo HXj.out HYj.out HV.out HE.out
        case measure => simp [intOf]; omega
      · obtain rfl : n2 = j := by omega
        have hjo : n2 < os.length := by have := HO.out; omega
        have hcell := hbuf.cell hjo
        have hfroz := hbuf.frozen n2
        go_wp2_with fail
        have hbuf2 := hbuf.set n2 cy
        have hrw : RW (wr.setCell ⟨w.heap.size, n2, none⟩ (.int .u32 (cy : Int))) ex (some ⟨w.heap.size, 0, none⟩) (n2 + 1) (n2 + 1) (os.set n2 cy) :=
          hbuf2.rw_ (fun h => absurd (HEX.out _ h) (by omega)) (hwd.set _ (by omega)) (by have := HO.out; simp; omega) (Nat.le_refl _)
        refine (norm_ok _ ex _ _ _ _ hrw (by omega)).mono ?_; rintro e w1 ⟨m, rfl, rfl, hres⟩
        go_wp2_with fail
        go_ret
        have hval : val (os.set n2 cy) = val xs + val ys := by
          have h1 : (os.set n2 cy).take (n2 + 1) = os.set n2 cy := List.take_of_length_le (by have := HO.out; simp; omega)
          rw [← h1, take_set_self _ _ _ hjo, val_append]
          have h2 := HV.out
          rw [List.take_of_length_le (l := xs) (by have := HX.out; omega), List.take_of_length_le (l := ys) (by have := HY.out; omega)] at h2
          simp only [val, List.length_take, Nat.mul_zero, Nat.add_zero]
          rw [show min n2 os.length = n2 from by omega]; exact h2
        rw [hval] at hres
        obtain ⟨X, D, h1, h2⟩ := grew (R := fun w' => RW w' ex (some ⟨w.heap.size, 0, none⟩) m m (digits (val xs + val ys))) (hb.setCell (Nat.le_refl _) (p := ⟨w.heap.size, n2, none⟩) (.int .u32 (cy : Int))) hres
        exact ⟨_, _, _, X, D, rfl, h1, h2⟩
  · have hmk := makeNat ((n1 : Int) + 1) (n1 + 1) (by omega) (by omega)
    have hm1 : n1 ≤ n1 := by omega
    have hm2 : n2 ≤ n1 := by omega
    go_enter Tryz.func175, Tryz.ntmps175
    go_wp2_with fail
    go_loopw [7, 18] (fun c i wr => ∃ (j cy : Nat) (os : List Nat), j ≤ n1 ∧ i = .int .i64 j ∧ c = .int .u32 cy ∧ cy ≤ 1 ∧ Buf 192 wr w.heap.size os ∧ Hid (os.length = n1 + 1) ∧ Wd os ∧
        Hid (val (os.take j) + 4294967296 ^ j * cy = val (xs.take j) + val (ys.take j)) ∧ Below w.heap.size w wr) (fun _ i _ => n1 - (intOf i).toNat)
    case atStart =>
      exact ⟨0, 0, _, Nat.zero_le _, rfl, rfl, by omega, Buf.new _ _ _, List.length_replicate, wd_replicate _, rfl, (Below.refl _ _).alloc (Nat.le_refl _) _⟩
    case round =>
      clear hmk
      obtain ⟨j, cy, os, hj, rfl, rfl, hcy, hbuf, HO, hwd, HV, hb⟩ := hrel
      have hxw := hx.mono (Kr.of_below hb ex)
      have hyw := hy.mono (Kr.of_below hb ex)
      have hgx := getD_lt hx.wd j
      have hgy := getD_lt hy.wd j
      by_cases hlt : j < n1
      · have hjo : j < os.length := by have := HO.out; omega
        have hcell := hbuf.cell hjo
        have hfroz := hbuf.frozen j
        go_wp2_with fail
        refine (at_ok wr ex _ _ _ xs hxw _ (by omega)).mono ?_; rintro e w1 ⟨rfl, rfl⟩
        rw [Int.toNat_natCast]
        generalize hX : xs.getD j 0 = x at *
        have HXj := Lib.hid hX; clear hX
        go_wp2_with fail
        refine (at_ok _ ex _ _ _ ys hyw _ (by omega)).mono ?_; rintro e w1 ⟨rfl, rfl⟩
        rw [Int.toNat_natCast]
        generalize hY : ys.getD j 0 = y at *
        have HYj := Lib.hid hY; clear hY
        go_wp2_with fail
        refine (add32_ok _ _ _ _ (by omega) (by omega) (by omega) (by omega) (by omega) (by omega)).mono ?_; rintro e w1 ⟨rfl, rfl⟩
        obtain ⟨s, hs⟩ : ∃ s : Nat, ((x : Int) + y + cy) % 4294967296 = (s : Int) := ⟨(x + y + cy) % 4294967296, by omega⟩
        obtain ⟨q, hq⟩ : ∃ q : Nat, ((x : Int) + y + cy) / 4294967296 = (q : Int) := ⟨(x + y + cy) / 4294967296, by omega⟩
        have hsl : s < 4294967296 := by omega
        have hql : q ≤ 1 := by omega
        have HE : Hid (x + y + cy = s + 4294967296 * q) := by show _ = _; omega
        rw [hs, hq]
        clear hs hq
        go_wp2_with fail
        go_roundw
        case rel =>
          refine ⟨j + 1, q, os.set j s, by omega, by go_num, rfl, hql, hbuf.set j s, by simpa using HO, hwd.set j hsl, ?_, hb.setCell (Nat.le_refl _) _⟩
          exact add_step hjo HXj.out HYj.out HV.out HE.out
        case measure => simp [intOf]; omega
      · obtain rfl : n1 = j := by omega
        have hjo : n1 < os.length := by have := HO.out; omega
        have hcell := hbuf.cell hjo
        have hfroz := hbuf.frozen n1
        go_wp2_with fail
        have hbuf2 := hbuf.set n1 cy
        have hrw : RW (wr.setCell ⟨w.heap.size, n1, none⟩ (.int .u32 (cy : Int))) ex (some ⟨w.heap.size, 0, none⟩) (n1 + 1) (n1 + 1) (os.set n1 cy) :=
          hbuf2.rw_ (fun h => absurd (HEX.out _ h) (by omega)) (hwd.set _ (by omega)) (by have := HO.out; simp; omega) (Nat.le_refl _)
        refine (norm_ok _ ex _ _ _ _ hrw (by omega)).mono ?_; rintro e w1 ⟨m, rfl, rfl, hres⟩
        go_wp2_with fail
        go_ret
        have hval : val (os.set n1 cy) = val xs + val ys := by
          have h1 : (os.set n1 cy).take (n1 + 1) = os.set n1 cy := List.take_of_length_le (by have := HO.out; simp; omega)
          rw [← h1, take_set_self _ _ _ hjo, val_append]
          have h2 := HV.out
          rw [List.take_of_length_le (l := xs) (by have := HX.out; omega), List.take_of_length_le (l := ys) (by have := HY.out; omega)] at h2
          simp only [val, List.length_take, Nat.mul_zero, Nat.add_zero]
          rw [show min n1 os.length = n1 from by omega]; exact h2
        rw [hval] at hres
        obtain ⟨X, D, h1, h2⟩ := grew (R := fun w' => RW w' ex (some ⟨w.heap.size, 0, none⟩) m m (digits (val xs + val ys))) (hb.setCell (Nat.le_refl _) (p := ⟨w.heap.size, n1, none⟩) (.int .u32 (cy : Int))) hres
        exact ⟨_, _, _, X, D, rfl, h1, h2⟩


end Go.Proofs.YthhdleppkggepaaGreat

/-
  The walks of package integer: differences and products of absolute values.
-/
namespace Go.Proofs.YthhdleppkggepaaGreat
open Go.RowKit Go.Deep
set_option maxRecDepth 100000

set_option maxHeartbeats 1000000 in
theorem sub_ok (w : World) (ex : List Nat) (A1 : Option Addr) (n1 c1 : Nat) (a : Nat) (A2 : Option Addr) (n2 c2 : Nat) (b : Nat)
    (hx : RW w ex A1 n1 c1 (digits a)) (hy : RW w ex A2 n2 c2 (digits b)) (hle : b ≤ a) (hn1 : n1 ≤ 100000000) (hex : ∀ b ∈ ex, b < w.heap.size) :
    Calls Tryz.prog 176 #[.slice A1 n1 c1, .slice A2 n2 c2] w fun e w' => ∃ A m c X D, e = .returned (.slice A m c) ∧ w' = w.more X D ∧ RW (w.more X D) ex A m c (digits (a - b)) := by
  have HX := Lib.hid hx.len
  have HY := Lib.hid hy.len
  have hn2 : n2 ≤ n1 := by have h1 := hx.len; have h2 := hy.len; have := length_digits_mono hle; omega
  have HEX := Lib.hid hex
  clear hex
  have hmk := makeNat (n1 : Int) n1 rfl (by omega)
  go_enter Tryz.func176, Tryz.ntmps176
  go_wp2_with fail
  go_loopw [6, 13] (fun c i wr => ∃ (j cy : Nat) (os : List Nat), j ≤ n1 ∧ i = .int .i64 j ∧ c = .int .u32 cy ∧ cy ≤ 1 ∧ Buf 192 wr w.heap.size os ∧ Hid (os.length = n1) ∧ Wd os ∧
      Hid (val (os.take j) + val ((digits b).take j) = val ((digits a).take j) + 4294967296 ^ j * cy) ∧ Below w.heap.size w wr) (fun _ i _ => n1 - (intOf i).toNat)
  case atStart =>
    exact ⟨0, 0, _, Nat.zero_le _, rfl, rfl, by omega, Buf.new _ _ _, List.length_replicate, wd_replicate _, rfl, (Below.refl _ _).alloc (Nat.le_refl _) _⟩
  case round =>
    clear hmk
    obtain ⟨j, cy, os, hj, rfl, rfl, hcy, hbuf, HO, hwd, HV, hb⟩ := hrel
    have hxw := hx.mono (Kr.of_below hb ex)
    have hyw := hy.mono (Kr.of_below hb ex)
    have hgx := getD_lt hx.wd j
    have hgy := getD_lt hy.wd j
    by_cases hlt : j < n1
    · have hjo : j < os.length := by have := HO.out; omega
      have hjx : j < (digits a).length := by have := HX.out; omega
      have hcell := hbuf.cell hjo
      have hfroz := hbuf.frozen j
      obtain ⟨bx, ox, rfl, hbx, hcx⟩ := hxw.at_ (by omega)
      have hcellx := hcx j hjx
      have hbxl : bx < w.heap.size := hx.lt (by omega)
      have HCX := Lib.hid hcx; clear hcx
      have hGX : Hid ((digits a).getD j 0 = (digits a)[j]) := by
        show _ = _
        rw [List.getD_eq_getElem?_getD, List.getElem?_eq_getElem hjx]; rfl
      obtain ⟨x, hX⟩ : ∃ x : Nat, (digits a)[j] = x := ⟨_, rfl⟩
      have hxl : x < 4294967296 := by rw [← hX]; exact wd_digits a _ (List.getElem_mem hjx)
      rw [hX] at hcellx
      have HXj := Lib.hid hX; clear hX
      obtain ⟨y, hY⟩ : ∃ y : Nat, (digits b).getD j 0 = y := ⟨_, rfl⟩
      rw [hY] at hgy
      have HYj := Lib.hid hY; clear hY
      obtain ⟨s, hs⟩ : ∃ s : Nat, ((x : Int) - y - cy) % 4294967296 = (s : Int) := ⟨(((x : Int) - y - cy) % 4294967296).toNat, by omega⟩
      obtain ⟨q, hq⟩ : ∃ q : Nat, (if (x : Int) < y + cy then (1 : Int) else 0) = (q : Int) := ⟨if (x : Int) < y + cy then 1 else 0, by split <;> rfl⟩
      have hsl : s < 4294967296 := by omega
      have hql : q ≤ 1 := by split at hq <;> omega
      have HE : Hid (s + y + cy = x + 4294967296 * q) := by show _ = _; split at hq <;> omega
      have HS := Lib.hid hs; clear hs
      have HQ := Lib.hid hq; clear hq
      go_wp2_with fail
      go_region_held3 (fun w' => w'.cell? ⟨bx, ox + j, none⟩ = some (.int .u32 x) ∧ w'.cell? ⟨w.heap.size, j, none⟩ = some (World.got w' w.heap.size j) ∧ w'.frozen? ⟨w.heap.size, j, none⟩ = false)
        ((repeat' apply And.intro) <;> first | (simp [*, go_sem, ↓IntWalk.iteOmega]; done) | (refine got_of ?_; simp [*, go_sem, ↓IntWalk.iteOmega]; done))
        (first
          | (go_at_call 211; refine (at_ok _ ex _ _ _ (digits b) (by first | exact hyw | exact hyw.mono ((Kr.refl _ _).drew)) _ (by omega)).mono ?_; rintro e w1 ⟨rfl, rfl⟩; rw [Int.toNat_natCast, HYj.out])
          | (go_at_call 212; refine (sub32_ok _ _ _ _ (by omega) (by omega) (by omega) (by omega) (by omega) (by omega)).mono ?_; rintro e w1 ⟨rfl, rfl⟩; rw [HS.out, HQ.out]))
      go_wp2_with fail
      go_roundw
      case rel =>
        refine ⟨j + 1, q, os.set j s, by omega, by go_num, rfl, hql, (hbuf.set j s).of rfl, by simpa using HO, hwd.set j hsl, ?_, (hb.setCell (Nat.le_refl _) _).drew⟩
        exact sub_step hjo (hGX.out.trans HXj.out) HYj.out HV.out HE.out
      case measure => simp [intOf]; omega
    · obtain rfl : n1 = j := by omega
      go_wp2_with fail
      have hrw : RW wr ex (some ⟨w.heap.size, 0, none⟩) n1 n1 os := hbuf.rw_ (fun h => absurd (HEX.out _ h) (by omega)) hwd (by have := HO.out; omega) (Nat.le_refl _)
      refine (norm_ok _ ex _ _ _ _ hrw (by omega)).mono ?_; rintro e w1 ⟨m, rfl, rfl, hres⟩
      go_wp2_with fail
      go_ret
      have hval : val os = a - b := by
        have := sub_end hwd HO.out HX.out.symm (by have := HY.out; omega) HV.out (by rw [val_digits, val_digits]; exact hle)
        rwa [val_digits, val_digits] at this
      rw [hval] at hres
      obtain ⟨X, D, h1, h2⟩ := grew (R := fun w' => RW w' ex (some ⟨w.heap.size, 0, none⟩) m m (digits (a - b))) hb hres
      exact ⟨_, _, _, X, D, rfl, h1, h2⟩

end Go.Proofs.YthhdleppkggepaaGreat

/-
  The walks of package integer: products of absolute values.
-/
namespace Go.Proofs.YthhdleppkggepaaGreat
open Go.RowKit Go.Deep
set_option maxRecDepth 100000

theorem mul_word {a y : Nat} (ha : a < 4294967296) (hy : y < 4294967296) : a * y ≤ 18446744065119617025 := by
  have := Nat.mul_le_mul (Nat.le_of_lt_succ (show a < 4294967295 + 1 from ha)) (Nat.le_of_lt_succ (show y < 4294967295 + 1 from hy))
  omega

set_option maxHeartbeats 2000000 in
theorem nmul_ok (w : World) (ex : List Nat) (A1 : Option Addr) (n1 c1 : Nat) (xs : List Nat) (A2 : Option Addr) (n2 c2 : Nat) (ys : List Nat)
    (hx : RW w ex A1 n1 c1 xs) (hy : RW w ex A2 n2 c2 ys) (hn1 : n1 ≤ 100000000) (hn2 : n2 ≤ 100000000) (hex : ∀ b ∈ ex, b < w.heap.size) :
    Calls Tryz.prog 177 #[.slice A1 n1 c1, .slice A2 n2 c2] w fun e w' => ∃ A m c X D, e = .returned (.slice A m c) ∧ w' = w.more X D ∧ RW (w.more X D) ex A m c (digits (val xs * val ys)) := by
  have HX := Lib.hid hx.len
  have HY := Lib.hid hy.len
  have HEX := Lib.hid hex
  clear hex
  have hmk := makeNat ((n1 : Int) + (n2 : Int)) (n1 + n2) (by omega) (by omega)
  go_enter Tryz.func177, Tryz.ntmps177
  go_wp2_with fail
  go_loopw [19] (fun i wr => ∃ (j : Nat) (os : List Nat), j ≤ n1 ∧ i = .int .i64 j ∧ Buf 192 wr w.heap.size os ∧ Hid (os.length = n1 + n2) ∧ Wd os ∧
      Hid (val (os.take (j + n2)) = val (xs.take j) * val ys) ∧ Below w.heap.size w wr) (fun i _ => n1 - (intOf i).toNat)
  case atStart =>
    refine ⟨0, _, Nat.zero_le _, rfl, Buf.new _ _ _, List.length_replicate, wd_replicate _, ?_, (Below.refl _ _).alloc (Nat.le_refl _) _⟩
    show _ = _
    rw [List.take_replicate, val_replicate_zero]; simp [val]
  case round =>
    clear hmk
    obtain ⟨j, os0, hj, rfl, hbuf0, HO0, hwd0, HV0, hb0⟩ := hrel
    obtain ⟨wo, rfl⟩ : ∃ wo : World, wo = wr := ⟨_, rfl⟩
    have hxw := hx.mono (Kr.of_below hb0 ex)
    by_cases hlt : j < n1
    · have hjx : j < xs.length := by have := HX.out; omega
      obtain ⟨bx, ox, rfl, hbx, hcx⟩ := hxw.at_ (by omega)
      have hcellx := hcx j hjx
      have HCX := Lib.hid hcx; clear hcx
      have hGX : Hid (xs.getD j 0 = xs[j]) := by
        show _ = _
        rw [List.getD_eq_getElem?_getD, List.getElem?_eq_getElem hjx]; rfl
      obtain ⟨a, hA⟩ : ∃ a : Nat, xs[j] = a := ⟨_, rfl⟩
      have hal : a < 4294967296 := by rw [← hA]; exact hx.wd _ (List.getElem_mem hjx)
      rw [hA] at hcellx
      have HAj := Lib.hid hA; clear hA
      go_wp2_with fail
      go_loopw [8, 26] (fun c i wr => ∃ (k cy : Nat) (os : List Nat), k ≤ n2 ∧ i = .int .i64 k ∧ c = .int .u64 cy ∧ cy < 4294967296 ∧ Buf 192 wr w.heap.size os ∧ Hid (os.length = n1 + n2) ∧ Wd os ∧
          Hid (val (os.take (j + k)) + 4294967296 ^ (j + k) * cy = val (os0.take (j + k)) + 4294967296 ^ j * (a * val (ys.take k))) ∧
          Hid (∀ i, j + k ≤ i → os[i]? = os0[i]?) ∧ Below w.heap.size w wr) (fun _ i _ => n2 - (intOf i).toNat)
      case atStart =>
        refine ⟨0, 0, os0, Nat.zero_le _, rfl, rfl, by omega, hbuf0, HO0, hwd0, ?_, fun _ _ => rfl, hb0⟩
        show _ = _
        simp [val]
      case round =>
        obtain ⟨k, cy, os, hk, rfl, rfl, hcy, hbuf, HO, hwd, HV, HSame, hb⟩ := hrel
        have hyw := hy.mono (Kr.of_below hb ex)
        by_cases hlt2 : k < n2
        · have hjo : j + k < os.length := by have := HO.out; omega
          have hky : k < ys.length := by have := HY.out; omega
          have hcell := hbuf.cell hjo
          have hfroz := hbuf.frozen (j + k)
          obtain ⟨o, hO⟩ : ∃ o : Nat, os[j + k] = o := ⟨_, rfl⟩
          have hol : o < 4294967296 := by rw [← hO]; exact hwd _ (List.getElem_mem hjo)
          rw [hO] at hcell
          have HOo := Lib.hid hO; clear hO
          obtain ⟨by_, oy, rfl, hby, hcy_⟩ := hyw.at_ (by omega)
          have hcelly := hcy_ k hky
          have HCY := Lib.hid hcy_; clear hcy_
          have hGY : Hid (ys.getD k 0 = ys[k]) := by
            show _ = _
            rw [List.getD_eq_getElem?_getD, List.getElem?_eq_getElem hky]; rfl
          obtain ⟨y, hY⟩ : ∃ y : Nat, ys[k] = y := ⟨_, rfl⟩
          have hyl : y < 4294967296 := by rw [← hY]; exact hy.wd _ (List.getElem_mem hky)
          rw [hY] at hcelly
          have HYk := Lib.hid hY; clear hY
          obtain ⟨p, hp⟩ : ∃ p : Nat, a * y = p := ⟨_, rfl⟩
          have hpl : p ≤ 18446744065119617025 := by rw [← hp]; exact mul_word hal hyl
          have hpi : (a : Int) * (y : Int) = (p : Int) := by rw [← hp]; rfl
          obtain ⟨s, hs⟩ : ∃ s : Nat, ((cy : Int) + ((p : Int) + o)) % 4294967296 = (s : Int) := ⟨(cy + (p + o)) % 4294967296, by omega⟩
          obtain ⟨q, hq⟩ : ∃ q : Nat, ((cy : Int) + ((p : Int) + o)) / 4294967296 = (q : Int) := ⟨(cy + (p + o)) / 4294967296, by omega⟩
          have hsl : s < 4294967296 := by omega
          have hql : q < 4294967296 := by omega
          have HE : Hid (cy + (a * y + o) = s + 4294967296 * q) := by show _ = _; rw [hp]; omega
          have HP := Lib.hid hp; clear hp
          go_wp2_with fail
          go_roundw
          case rel =>
            refine ⟨k + 1, q, os.set (j + k) s, by omega, by go_num, rfl, hql, hbuf.set (j + k) s, by simpa using HO, hwd.set _ hsl, ?_, ?_, hb.setCell (Nat.le_refl _) _⟩
            · exact mul_step hjo (HO.out.trans HO0.out.symm) (hGY.out.trans HYk.out) HOo.out HSame.out HV.out HE.out
            · intro i hi
              rw [List.getElem?_set_ne (by omega)]
              exact HSame.out i (by omega)
          case measure => simp [intOf]; omega
        · obtain rfl : n2 = k := by omega
          have hjo : j + n2 < os.length := by have := HO.out; omega
          have hcell := hbuf.cell hjo
          have hfroz := hbuf.frozen (j + n2)
          have hcyi : (cy : Int) % 4294967296 = cy := by omega
          go_wp2_with fail
          go_roundw
          case rel =>
            refine ⟨j + 1, os.set (j + n2) cy, by omega, by go_num, hbuf.set (j + n2) cy, by simpa using HO, hwd.set _ hcy, ?_, hb.setCell (Nat.le_refl _) _⟩
            have h1 := HV.out
            rw [List.take_of_length_le (l := ys) (by have := HY.out; omega)] at h1
            exact mul_row hjo (hGX.out.trans HAj.out) HV0.out h1
          case measure => simp [intOf]; omega
    · obtain rfl : n1 = j := by omega
      go_wp2_with fail
      have hrw : RW wo ex (some ⟨w.heap.size, 0, none⟩) (n1 + n2) (n1 + n2) os0 := hbuf0.rw_ (fun h => absurd (HEX.out _ h) (by omega)) hwd0 (by have := HO0.out; omega) (Nat.le_refl _)
      refine (norm_ok _ ex _ _ _ _ hrw (by omega)).mono ?_; rintro e w1 ⟨m, rfl, rfl, hres⟩
      go_wp2_with fail
      go_ret
      have hval : val os0 = val xs * val ys := by
        have := HV0.out
        rwa [List.take_of_length_le (l := os0) (by have := HO0.out; omega), List.take_of_length_le (l := xs) (by have := HX.out; omega)] at this
      rw [hval] at hres
      obtain ⟨X, D, h1, h2⟩ := grew (R := fun w' => RW w' ex (some ⟨w.heap.size, 0, none⟩) m m (digits (val xs * val ys))) hb0 hres
      exact ⟨_, _, _, X, D, rfl, h1, h2⟩

end Go.Proofs.YthhdleppkggepaaGreat

/-
  The walks of package integer: what has a sign.
-/
namespace Go.Proofs.YthhdleppkggepaaGreat
open Go.RowKit Go.Deep
set_option maxRecDepth 100000

theorem u32s_one (ws : List Nat) : ∀ u ∈ u32s ws, u.oneCell' = true := by
  intro u hu
  obtain ⟨x, _, rfl⟩ := List.mem_map.1 hu
  rfl
theorem length_u32s (ws : List Nat) : (u32s ws).length = ws.length := by simp [u32s]

set_option maxHeartbeats 400000 in
theorem clone_ok (w : World) (ex : List Nat) (A : Option Addr) (n c : Nat) (ws : List Nat) (h : RW w ex A n c ws) (hn : n ≤ 1000000000) (hex : ∀ b ∈ ex, b < w.heap.size) :
    Calls Tryz.prog 173 #[.slice A n c] w fun e w' => ∃ A m c X D, e = .returned (.slice A m c) ∧ w' = w.more X D ∧ RW (w.more X D) ex A m c ws := by
  have hnil := fun wx => Lib.run_eql_slice_nil (P := Tryz.prog) wx 169 192 A n c 0 0 Tryz.underlying169
  cases A with
  | none =>
    have hnil' : ∀ wx, (binOp .eql 169 (.slice none n c) (.slice none 0 0)).run Tryz.prog wx = .ok (.bool true) wx := hnil
    clear hnil
    go_enter Tryz.func173, Tryz.ntmps173
    go_wp2_with fail
    go_ret
    have hws : ws = [] := by
      have h0 : n = 0 := by
        rcases Nat.eq_zero_or_pos n with h0 | h0
        · exact h0
        · obtain ⟨b, o, e, _⟩ := h.at_ h0; cases e
      exact List.eq_nil_of_length_eq_zero (by rw [← h.len, h0])
    subst hws
    obtain ⟨X, D, h1, h2⟩ := grew (R := fun w' => RW w' ex none 0 0 []) (Below.refl w.heap.size w) (RW.nil _ _ _ _)
    exact ⟨_, _, _, X, D, rfl, h1, h2⟩
  | some ad =>
    have hnil' : ∀ wx, (binOp .eql 169 (.slice (some ad) n c) (.slice none 0 0)).run Tryz.prog wx = .ok (.bool false) wx := hnil
    clear hnil
    obtain ⟨i0, hi0, hz0, hz1, hz2⟩ := info_parts infoU32
    have HL := Lib.hid h.len
    go_enter Tryz.func173, Tryz.ntmps173
    go_wp2_with (at_builtin; refine wpList_append_mine _ rfl _ _ _ rfl w.heap.size 192 i0 _ 1 4 Tryz.underlying169 hi0 hz0 hz1 hz2 rfl (by decide) (.slice (some ⟨w.heap.size, 0, none⟩) 0 0) 0 [] rfl (World.ownsRow_made w #[] 0 (Nat.le_refl _) (by decide) rfl) ex (some ad) n c (u32s ws) rfl (by rw [length_u32s, Nat.mul_one]; exact HL.out.symm) (h.row.mono ((Kr.refl _ _).alloc_ _)) (u32s_one ws) (by simp only [maxLen]; omega) (by omega) (by simp) ?_; intro v' w1 hown hg hd hat)
    go_ret
    obtain ⟨A', c', rfl, hc'⟩ := own_form hown
    have hb : Below w.heap.size w w1 := ((Below.refl _ _).alloc (Nat.le_refl _) _).grown hg hd (by simp) (fun k hk => by simp [Value.ownBlock] at hk; omega)
    have hrow : Row w1 ex A' ([] ++ u32s ws) := Row.of_own hown hex
    obtain ⟨X, D, h1, h2⟩ := grew (R := fun w' => RW w' ex A' (0 + n) c' ws) hb ⟨by rw [Nat.zero_add]; exact HL.out, by omega, hrow, h.wd⟩
    exact ⟨_, _, _, X, D, rfl, h1, h2⟩

theorem RI.mk {w : World} {ex : List Nat} {A : Option Addr} {n c : Nat} {z : Int} (h : RW w ex A n c (digits z.natAbs)) : RI w ex (decide (z < 0)) A n c z := ⟨rfl, h⟩

set_option maxHeartbeats 400000 in
theorem signed_ok (w : World) (ex : List Nat) (A : Option Addr) (n c : Nat) (ws : List Nat) (neg : Bool) (hx : RW w ex A n c ws) (hn : n ≤ 1000000000) (hex : ∀ b ∈ ex, b < w.heap.size) :
    Calls Tryz.prog 135 #[.slice A n c, .bool neg] w (RetI w ex (if neg then -(val ws : Int) else val ws)) := by
  have h0 := hx.mono (Kr.fresh (l := [w.heap.size]) (w' := w.alloc (.cells #[.bool false, .slice none 0 0] 57)) (by repeat first | with_reducible exact .refl .. | with_reducible assumption | refine .s ?_ ?_ | refine .m ?_ ?_ | refine .l ?_ ?_ | refine .d ?_ | refine .e ?_ | (simp <;> omega) | omega) (by simp))
  cases neg
  · go_enter Tryz.func135, Tryz.ntmps135
    go_wp2_with fail
    refine (norm_ok _ _ _ _ _ _ h0 hn).mono ?_; rintro e w1 ⟨m, rfl, rfl, hres⟩
    have hm : m ≤ n := by rw [hres.len, hx.len]; exact length_digits_le (val_lt hx.wd)
    go_wp2_with fail
    refine (clone_ok _ _ _ _ _ _ hres (by omega) (hexs hex (by simp) (by simp))).mono ?_; rintro e w1 ⟨A', m', c', X, D, rfl, rfl, hres'⟩
    go_wp2_with fail
    refine bodyPost_ret (v := .agg #[.bool false, .slice A' m' c']) (by simp [results, Tryz.results135, go_sem, ↓IntWalk.iteOmega]) rfl (RetI.mk rfl (by repeat first | with_reducible exact .refl .. | with_reducible assumption | refine .s ?_ ?_ | refine .m ?_ ?_ | refine .l ?_ ?_ | refine .d ?_ | refine .e ?_ | (simp <;> omega) | omega) ?_)
    refine ⟨by simp, ?_⟩
    rw [Int.natAbs_natCast]
    exact hres'.mono (Kr.down (by repeat (first | (with_reducible exact Kr.refl _ _) | (with_reducible assumption) | refine Kr.setCell ?_ _ (by simp) | refine Kr.more ?_ _ _ | refine Kr.alloc_ ?_ _ | refine Kr.drew ?_ | refine Kr.drewN ?_ _)) (by first | (intro b hb; simp [hb]; done) | (intro b hb; exact hb) | (intro b hb; simp at hb ⊢; grind)))
  · go_enter Tryz.func135, Tryz.ntmps135
    go_wp2_with fail
    refine (norm_ok _ _ _ _ _ _ h0 hn).mono ?_; rintro e w1 ⟨m, rfl, rfl, hres⟩
    have hm : m ≤ n := by rw [hres.len, hx.len]; exact length_digits_le (val_lt hx.wd)
    have HM : Hid (0 < m ↔ 0 < val ws) := by
      have h2 := hres.len
      have h3 : digits (val ws) = [] ↔ val ws = 0 := digits_eq_nil
      rw [← List.length_eq_zero_iff] at h3
      show _ ↔ _
      omega
    by_cases hz : 0 < m
    · go_wp2_with fail
      refine (clone_ok _ _ _ _ _ _ hres (by omega) (hexs hex (by simp) (by simp))).mono ?_; rintro e w1 ⟨A', m', c', X, D, rfl, rfl, hres'⟩
      go_wp2_with fail
      refine bodyPost_ret (v := .agg #[.bool true, .slice A' m' c']) (by simp [results, Tryz.results135, go_sem, ↓IntWalk.iteOmega]) rfl (RetI.mk rfl (by repeat first | with_reducible exact .refl .. | with_reducible assumption | refine .s ?_ ?_ | refine .m ?_ ?_ | refine .l ?_ ?_ | refine .d ?_ | refine .e ?_ | (simp <;> omega) | omega) ?_)
      have h4 := HM.out.1 hz
      refine ⟨by simp; omega, ?_⟩
      rw [Int.natAbs_neg, Int.natAbs_natCast]
      exact hres'.mono (Kr.down (by repeat (first | (with_reducible exact Kr.refl _ _) | (with_reducible assumption) | refine Kr.setCell ?_ _ (by simp) | refine Kr.more ?_ _ _ | refine Kr.alloc_ ?_ _ | refine Kr.drew ?_ | refine Kr.drewN ?_ _)) (by first | (intro b hb; simp [hb]; done) | (intro b hb; exact hb) | (intro b hb; simp at hb ⊢; grind)))
    · go_wp2_with fail
      refine (clone_ok _ _ _ _ _ _ hres (by omega) (hexs hex (by simp) (by simp))).mono ?_; rintro e w1 ⟨A', m', c', X, D, rfl, rfl, hres'⟩
      go_wp2_with fail
      refine bodyPost_ret (v := .agg #[.bool false, .slice A' m' c']) (by simp [results, Tryz.results135, go_sem, ↓IntWalk.iteOmega]) rfl (RetI.mk rfl (by repeat first | with_reducible exact .refl .. | with_reducible assumption | refine .s ?_ ?_ | refine .m ?_ ?_ | refine .l ?_ ?_ | refine .d ?_ | refine .e ?_ | (simp <;> omega) | omega) ?_)
      have h4 : val ws = 0 := by have := HM.out; omega
      refine ⟨by simp [h4], ?_⟩
      rw [Int.natAbs_neg, Int.natAbs_natCast]
      exact hres'.mono (Kr.down (by repeat (first | (with_reducible exact Kr.refl _ _) | (with_reducible assumption) | refine Kr.setCell ?_ _ (by simp) | refine Kr.more ?_ _ _ | refine Kr.alloc_ ?_ _ | refine Kr.drew ?_ | refine Kr.drewN ?_ _)) (by first | (intro b hb; simp [hb]; done) | (intro b hb; exact hb) | (intro b hb; simp at hb ⊢; grind)))

set_option maxHeartbeats 400000 in
theorem natural_ok (w : World) (ex : List Nat) (n : Nat) (hn : n < 18446744073709551616) (hex : ∀ b ∈ ex, b < w.heap.size) :
    Calls Tryz.prog 134 #[.int .u64 n] w (RetW w ex (digits n)) := by
  obtain ⟨a, ha⟩ : ∃ a : Nat, (n : Int) % 4294967296 = (a : Int) := ⟨n % 4294967296, by omega⟩
  obtain ⟨b, hb⟩ : ∃ b : Nat, (n : Int) / 4294967296 = (b : Int) := ⟨n / 4294967296, by omega⟩
  have hal : a < 4294967296 := by omega
  have hbl : b < 4294967296 := by omega
  have hbm : (b : Int) % 4294967296 = (b : Int) := by omega
  have HV : Hid (val [a, b] = n) := by show _ = _; simp [val]; omega
  have hn0 : (0 : Int) ≤ n := by omega
  have hrow : RW (w.alloc (.cells #[.int .u32 a, .int .u32 b] 192)) ex (some ⟨w.heap.size, 0, none⟩) 2 2 [a, b] := by
    refine ⟨rfl, Nat.le_refl _, fun _ => ⟨_, _, rfl, fun h => absurd (hex _ h) (by omega), fun i u hu => ?_⟩, fun x hx => ?_⟩
    · rw [Nat.zero_add, World.cell?_alloc_new]; simpa [u32s] using hu
    · simp at hx; rcases hx with rfl | rfl <;> assumption
  go_enter Tryz.func134, Tryz.ntmps134
  go_wp2_with fail
  refine (norm_ok _ _ _ _ _ _ hrow (by omega)).mono ?_; rintro e w1 ⟨m, rfl, rfl, hres⟩
  go_wp2_with fail
  go_ret
  rw [HV.out] at hres
  exact RetW.mk rfl (by repeat first | with_reducible exact .refl .. | with_reducible assumption | refine .s ?_ ?_ | refine .m ?_ ?_ | refine .l ?_ ?_ | refine .d ?_ | refine .e ?_ | (simp <;> omega) | omega) hres

set_option maxHeartbeats 400000 in
theorem of_ok (w : World) (ex : List Nat) (z : Int) (hz1 : -9223372036854775808 ≤ z) (hz2 : z ≤ 9223372036854775807) (hex : ∀ b ∈ ex, b < w.heap.size) :
    Calls Tryz.prog 94 #[.int .i64 z] w (RetI w ex z) := by
  by_cases hz : z < 0
  · obtain ⟨m, hm⟩ : ∃ m : Nat, z = -(m : Int) := ⟨z.natAbs, by omega⟩
    subst hm
    have hu : IntKind.u64.wrap (-(m : Int)) = 18446744073709551616 - (m : Int) := by simp [IntKind.wrap, IntKind.bits, IntKind.signed]; omega
    have hu2 : IntKind.u64.wrap (-(18446744073709551616 - (m : Int))) = (m : Int) := by simp [IntKind.wrap, IntKind.bits, IntKind.signed]; omega
    go_enter Tryz.func94, Tryz.ntmps94
    go_wp2_with fail
    refine (natural_ok _ (w.heap.size :: ex) m (by omega) (hexs (l := [w.heap.size]) hex (by simp) (by simp))).mono ?_; rintro e w1 ⟨A', m', c', X, D, rfl, rfl, hres⟩
    go_wp2_with fail
    refine (signed_ok _ (w.heap.size :: ex) _ _ _ _ _ hres (by have := hres.len; have := length_digits_le (n := m) (k := 2) (by omega); omega) (hexs (l := [w.heap.size]) hex (by first | (simp; done) | (simp; omega) | omega) (by first | (simp; done) | (simp; omega) | omega))).mono ?_; rintro e w1 ⟨s2, A2, m2, c2, X2, D2, rfl, rfl, hres2⟩
    go_wp2_with fail
    refine bodyPost_ret (v := .agg #[.bool s2, .slice A2 m2 c2]) (by simp [results, Tryz.results94, go_sem, ↓IntWalk.iteOmega]) rfl (RetI.mk rfl (by repeat first | with_reducible exact .refl .. | with_reducible assumption | refine .s ?_ ?_ | refine .m ?_ ?_ | refine .l ?_ ?_ | refine .d ?_ | refine .e ?_ | (simp <;> omega) | omega) ?_)
    rw [val_digits] at hres2
    exact hres2.mono (Kr.down (by repeat (first | (with_reducible exact Kr.refl _ _) | (with_reducible assumption) | refine Kr.setCell ?_ _ (by simp) | refine Kr.more ?_ _ _ | refine Kr.alloc_ ?_ _ | refine Kr.drew ?_ | refine Kr.drewN ?_ _)) (by first | (intro b hb; simp [hb]; done) | (intro b hb; exact hb) | (intro b hb; simp at hb ⊢; grind)))
  · obtain ⟨m, rfl⟩ := Int.eq_ofNat_of_zero_le (show 0 ≤ z by omega)
    go_enter Tryz.func94, Tryz.ntmps94
    go_wp2_with fail
    refine (natural_ok _ (w.heap.size :: ex) m (by omega) (hexs (l := [w.heap.size]) hex (by simp) (by simp))).mono ?_; rintro e w1 ⟨A', m', c', X, D, rfl, rfl, hres⟩
    go_wp2_with fail
    refine (signed_ok _ (w.heap.size :: ex) _ _ _ _ _ hres (by have := hres.len; have := length_digits_le (n := m) (k := 2) (by omega); omega) (hexs (l := [w.heap.size]) hex (by first | (simp; done) | (simp; omega) | omega) (by first | (simp; done) | (simp; omega) | omega))).mono ?_; rintro e w1 ⟨s2, A2, m2, c2, X2, D2, rfl, rfl, hres2⟩
    go_wp2_with fail
    refine bodyPost_ret (v := .agg #[.bool s2, .slice A2 m2 c2]) (by simp [results, Tryz.results94, go_sem, ↓IntWalk.iteOmega]) rfl (RetI.mk rfl (by repeat first | with_reducible exact .refl .. | with_reducible assumption | refine .s ?_ ?_ | refine .m ?_ ?_ | refine .l ?_ ?_ | refine .d ?_ | refine .e ?_ | (simp <;> omega) | omega) ?_)
    rw [val_digits] at hres2
    exact hres2.mono (Kr.down (by repeat (first | (with_reducible exact Kr.refl _ _) | (with_reducible assumption) | refine Kr.setCell ?_ _ (by simp) | refine Kr.more ?_ _ _ | refine Kr.alloc_ ?_ _ | refine Kr.drew ?_ | refine Kr.drewN ?_ _)) (by first | (intro b hb; simp [hb]; done) | (intro b hb; exact hb) | (intro b hb; simp at hb ⊢; grind)))

theorem RI.sign {w : World} {ex : List Nat} {s : Bool} {A : Option Addr} {n c : Nat} {z : Int} (h : RI w ex s A n c z) : s = decide (z < 0) := h.1
theorem RI.n0 {w : World} {ex : List Nat} {s : Bool} {A : Option Addr} {n c : Nat} {z : Int} (h : RI w ex s A n c z) : n = 0 ↔ z = 0 := by
  rw [h.len]; exact wl_eq_zero

set_option maxHeartbeats 400000 in
theorem sign_ok (w : World) (ex : List Nat) (s : Bool) (A : Option Addr) (n c : Nat) (z : Int) (hx : RI w ex s A n c z) :
    Calls Tryz.prog 133 #[.agg #[.bool s, .slice A n c]] w (RetV w (.int .i64 z.sign)) := by
  have hs := hx.sign
  have h0 := hx.n0
  cases s
  · have hz : ¬ z < 0 := by simpa using hs
    have HZ : Hid (z.sign = if n = 0 then 0 else 1) := by
      show _ = _
      by_cases hn : n = 0
      · rw [if_pos hn, h0.1 hn]; rfl
      · rw [if_neg hn]; exact Int.sign_eq_one_of_pos (by omega)
    clear hs h0
    go_enter Tryz.func133, Tryz.ntmps133
    go_wp2
    · go_ret
      refine RetV.mk ?_ (by repeat first | with_reducible exact .refl .. | with_reducible assumption | refine .s ?_ ?_ | refine .m ?_ ?_ | refine .l ?_ ?_ | refine .d ?_ | refine .e ?_ | (simp <;> omega) | omega)
      rw [HZ.out, if_neg (by omega)]; rfl
    · go_ret
      refine RetV.mk ?_ (by repeat first | with_reducible exact .refl .. | with_reducible assumption | refine .s ?_ ?_ | refine .m ?_ ?_ | refine .l ?_ ?_ | refine .d ?_ | refine .e ?_ | (simp <;> omega) | omega)
      rw [HZ.out]
      by_cases hn : n = 0
      · subst hn; rfl
      · obtain rfl : n = 1 := by omega
        rfl
  · have hz : z < 0 := by simpa using hs
    have HZ : Hid (z.sign = -1) := Int.sign_eq_neg_one_of_neg hz
    clear hs h0
    go_enter Tryz.func133, Tryz.ntmps133
    go_wp2
    go_ret
    refine RetV.mk ?_ (by repeat first | with_reducible exact .refl .. | with_reducible assumption | refine .s ?_ ?_ | refine .m ?_ ?_ | refine .l ?_ ?_ | refine .d ?_ | refine .e ?_ | (simp <;> omega) | omega)
    rw [HZ.out]; rfl

set_option maxHeartbeats 400000 in
theorem ineg_ok (w : World) (ex : List Nat) (s : Bool) (A : Option Addr) (n c : Nat) (z : Int) (hx : RI w ex s A n c z) (hn : n ≤ 1000000000) (hex : ∀ b ∈ ex, b < w.heap.size) :
    Calls Tryz.prog 139 #[.agg #[.bool s, .slice A n c]] w (RetI w ex (-z)) := by
  have HZ : Hid ((if !s then -(val (digits z.natAbs) : Int) else val (digits z.natAbs)) = -z) := by
    show _ = _
    rw [val_digits, hx.sign]
    by_cases hz : z < 0
    · simp [hz]; omega
    · simp [hz]; omega
  have h0 := hx.2.mono (Kr.fresh (l := [w.heap.size + 1]) (w' := (w.alloc (.cells #[.bool s, .slice A n c] 57)).alloc (.cells #[.bool false, .slice none 0 0] 57)) (by repeat first | with_reducible exact .refl .. | with_reducible assumption | refine .s ?_ ?_ | refine .m ?_ ?_ | refine .l ?_ ?_ | refine .d ?_ | refine .e ?_ | (simp <;> omega) | omega) (by simp))
  go_enter Tryz.func139, Tryz.ntmps139
  go_wp2_with fail
  refine (signed_ok _ _ _ _ _ _ _ h0 hn (hexs hex (by first | (simp; done) | (simp; omega) | omega) (by first | (simp; done) | (simp; omega) | omega))).mono ?_; rintro e w1 ⟨s2, A2, m2, c2, X2, D2, rfl, rfl, hres2⟩
  rw [HZ.out] at hres2
  go_wp2_with fail
  refine bodyPost_ret (v := .agg #[.bool s2, .slice A2 m2 c2]) (by simp [results, Tryz.results139, go_sem, ↓IntWalk.iteOmega]) rfl (RetI.mk rfl (by repeat first | with_reducible exact .refl .. | with_reducible assumption | refine .s ?_ ?_ | refine .m ?_ ?_ | refine .l ?_ ?_ | refine .d ?_ | refine .e ?_ | (simp <;> omega) | omega) ?_)
  exact hres2.mono (Kr.down (by repeat (first | (with_reducible exact Kr.refl _ _) | (with_reducible assumption) | refine Kr.setCell ?_ _ (by simp) | refine Kr.more ?_ _ _ | refine Kr.alloc_ ?_ _ | refine Kr.drew ?_ | refine Kr.drewN ?_ _)) (by first | (intro b hb; simp [hb]; done) | (intro b hb; exact hb) | (intro b hb; simp at hb ⊢; grind)))

end Go.Proofs.YthhdleppkggepaaGreat
