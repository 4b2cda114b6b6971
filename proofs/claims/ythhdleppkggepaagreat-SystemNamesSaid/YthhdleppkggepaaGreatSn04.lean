/-
  Two slices of the call's own side by side.
-/
import Derived.Test.YthhdleppkggepaaGreatSn03

set_option linter.unusedSimpArgs false
set_option linter.unusedVariables false
set_option linter.unusedSectionVars false

namespace Go.Proofs.YthhdleppkggepaaGreat
open Go.RowKit
section
variable {α : Type} {E : Elt α}

section
variable (E) {o : Oper} {a : Act} {Q : Exit → Act → World → Prop} (w : World)
/-- .. and no other block turns. -/
theorem wpList_append_elt2 {ops : Array Oper} {rest : List Oper} (hgd : o.guard = none) (s x : Operand) (t : TypeId)
    (ho : o.op = .call { callee := .builtin .append, args := #[s, x], argTypes := #[t, t] }) (ht : Tryz.prog.underlying t = some (.slice E.ty))
    (base : Nat) (ex : List Nat) (v : Value) (l : List α) (hs : a.eval s = v) (hown : OwnL E w base ex v l)
    (b c : Nat) (hx : a.eval x = .slice (some ⟨b, 0, none⟩) 1 c) (y : α) (vs : List Value) (hcell : ∀ j u, vs[j]? = some u → w.cell? ⟨b, j, none⟩ = some u) (hb : b ∉ own v ++ ex) (he : E.rd w (own v ++ ex) y vs)
    (hn : l.length < 100000000000) (hbase : base ≤ w.heap.size)
    (h : ∀ v' w', OwnL E w' base ex v' (l ++ [y]) → (∀ ex', Kr w (own v ++ ex') w' (own v' ++ ex')) → (∀ b ∈ own v', b ∈ own v ∨ w.heap.size ≤ b) → (∀ (B : Nat) (a : World), Below B a w → B ≤ base → Below B a w') → wpList Tryz.prog ops Q rest (a.put o.dst v') w') : wpList Tryz.prog ops Q (o :: rest) a w := by
  refine wpList_plain hgd fun K' hK => ?_
  obtain ⟨cs, h1, h2⟩ := hown
  obtain ⟨i, z, i1, i2, i3, i4, i5⟩ := E.info
  have hf := E.few
  refine wp_append_mine w s x t ho base E.ty i z E.size E.bytes ht i1 i2 i3 i4 i5 E.pos v l.length cs hs h1 (own v ++ ex) (some ⟨b, 0, none⟩) 1 c vs hx (by rw [E.len he, Nat.one_mul]) (fun _ => ⟨b, 0, rfl, hb, fun i u hu => by rw [Nat.zero_add]; exact hcell i u hu⟩) (E.one he) (by simp only [maxLen]; omega)
    (Nat.le_trans (Nat.mul_le_mul (show l.length + 1 ≤ 100000000000 by omega) hf) (by decide)) hbase ?_
  intro v' w' g1 g2 gd g3
  have hk : ∀ ex', Kr w (own v ++ ex') w' (own v' ++ ex') := fun ex' => Kr.append g2 g3
  refine hK _ _ (h v' w' ⟨cs ++ vs, ?_, (Elts.append he h2).mono (hk ex)⟩ hk ?_ (fun B a hb hB => Below.append hb g2 gd (Nat.le_trans hB hbase) (fun k hk => Nat.le_trans hB (h1.lt k hk).1)))
  · rw [List.length_append]; exact g1
  · intro b hb
    rcases g3 with g3 | g3
    · left; simpa [own, g3] using hb
    · right; simp [own, g3] at hb; omega
end
/-- What has been built, read as a slice; nothing of its own is kept apart. -/
theorem OwnL.read' {w : World} {base : Nat} {ex : List Nat} {A : Option Addr} {n c : Nat} {l : List α} (h : OwnL E w base ex (.slice A n c) l) (hx : ∀ b ∈ own (.slice A n c), b ∉ ex) : RL E w ex A n c l := by
  obtain ⟨cs, h1, h2⟩ := h
  obtain ⟨A', c', e, hc⟩ := own_form h1
  injection e with e1 e2 e3
  subst e1 e2 e3
  refine RL.of_row ?_ (h2.mono ((Kr.refl _ _).sub (by simp; intro b hb; exact .inr hb))) rfl hc
  intro hne
  rcases h1.2 with ⟨hv, hn⟩ | ⟨g, cap, cur, hv, hb, _⟩
  · exfalso; apply hne; apply List.eq_nil_of_length_eq_zero; rw [h1.1, hn]; simp
  · injection hv with hv
    subst hv
    refine ⟨g, 0, rfl, hx g (by simp [own, Value.ownBlock]), fun i u hu => ?_⟩
    have := h1.cells (g := g) rfl i u hu
    rw [Addr.add_lit] at this
    exact this
/-- Kept apart in another order. -/
theorem Kr.perm {w w' : World} {ex ex' e1 e2 : List Nat} (k : Kr w ex w' ex') (h1 : ∀ b, b ∈ ex → b ∈ e1) (h2 : ∀ b, b ∈ e2 → b ∈ ex') : Kr w e1 w' e2 := (k.src h1).sub h2
/-- Another slice of the call's own, behind an append to this one. -/
theorem OwnL.beside {w w' : World} {base : Nat} {ex : List Nat} {v v1 v2 : Value} {l : List α} (h : OwnL E w base (own v ++ ex) v1 l) (hk : ∀ ex', Kr w (own v ++ ex') w' (own v2 ++ ex')) (hd : ∀ b ∈ own v1, b ∉ own v) : OwnL E w' base (own v2 ++ ex) v1 l := by
  have hlt : ∀ b ∈ own v1, b < w.heap.size := fun b hb => (h.le b hb).2
  refine h.keepR ((hk (own v1 ++ ex)).perm (fun b hb => by simp only [List.mem_append] at hb ⊢; grind) (fun b hb => by simp only [List.mem_append] at hb ⊢; grind)) (fun b hb => ?_)
  have := (hk []).same b (hlt b hb) (by simpa using hd b hb)
  exact this
theorem OwnL.exsub {w : World} {base : Nat} {ex ex' : List Nat} {v : Value} {l : List α} (h : OwnL E w base ex v l) (hs : ∀ b, b ∈ ex' → b ∈ ex) : OwnL E w base ex' v l := by
  obtain ⟨cs, h1, h2⟩ := h
  exact ⟨cs, h1, h2.mono ((Kr.refl _ _).sub (fun b hb => by simp only [List.mem_append] at hb ⊢; exact hb.imp id (hs b)))⟩

end
end Go.Proofs.YthhdleppkggepaaGreat

/-
  A call whose result keeps clear of every block that was made since a point: for drawn regions that make a block, call, and write to the block.
-/
namespace Go.Proofs.YthhdleppkggepaaGreat
open Go.RowKit

/-- The blocks of W from lo on. -/
def FrW (lo : Nat) (W : World) : List Nat := List.range' lo (W.heap.size - lo)
theorem mem_FrW {lo : Nat} {W : World} {b : Nat} : b ∈ FrW lo W ↔ lo ≤ b ∧ b < W.heap.size := by
  unfold FrW; rw [List.mem_range'_1]; omega
theorem FrW.kr {w0 w : World} {ex : List Nat} (hb : Below w0.heap.size w0 w) : Kr w0 ex w (FrW w0.heap.size w ++ ex) :=
  Kr.fresh hb (fun _ hh => (mem_FrW.1 hh).1)
theorem FrW.hex {w : World} {lo s : Nat} {ex : List Nat} (hex : ∀ b ∈ ex, b < s) (hs : s ≤ w.heap.size) : ∀ b ∈ FrW lo w ++ ex, b < w.heap.size := by
  intro b hb
  rcases List.mem_append.1 hb with hb | hb
  · exact (mem_FrW.1 hb).2
  · have := hex b hb; omega
/-- From a on nothing has turned but blocks of W from lo on. -/
structure KB (lo : Nat) (W a w : World) : Prop where
  size : a.heap.size ≤ w.heap.size
  same : ∀ b, b < a.heap.size → ¬ (lo ≤ b ∧ b < W.heap.size) → w.heap[b]? = a.heap[b]?
section
variable {lo : Nat} {W a w : World}
theorem KB.refl (lo : Nat) (W a : World) : KB lo W a a := ⟨Nat.le_refl _, fun _ _ _ => rfl⟩
theorem KB.setCell (h : KB lo W a w) {p : Addr} (u : Value) (hp : (lo ≤ p.block ∧ p.block < W.heap.size) ∨ a.heap.size ≤ p.block) : KB lo W a (w.setCell p u) :=
  ⟨by simpa using h.size, fun b hb hx => (Below.heap_setCell _ _ _ _ (fun e => by subst e; rcases hp with hp | hp; exact hx hp; omega)).trans (h.same b hb hx)⟩
theorem KB.alloc (h : KB lo W a w) (o : Obj) : KB lo W a (w.alloc o) :=
  ⟨by have := h.size; simp; omega, fun b hb hx => (Below.heap_alloc _ _ _ (Nat.lt_of_lt_of_le hb h.size)).trans (h.same b hb hx)⟩
theorem KB.more (h : KB lo W a w) (X : Array Obj) (D : Nat) : KB lo W a (w.more X D) :=
  ⟨by have := h.size; simp; omega, fun b hb hx => (World.heap_more_lt _ _ _ (Nat.lt_of_lt_of_le hb h.size)).trans (h.same b hb hx)⟩
theorem KB.drew (h : KB lo W a w) : KB lo W a w.drew := ⟨by simpa using h.size, fun b hb hx => h.same b hb hx⟩
theorem KB.drewN (h : KB lo W a w) (n : Nat) : KB lo W a (w.drewN n) := ⟨h.size, fun b hb hx => h.same b hb hx⟩
theorem KB.kr {ex : List Nat} (h : KB lo W a w) : Kr a (FrW lo W ++ ex) w ex :=
  ⟨h.size, fun b hb hx hh => hx (List.mem_append_right _ hh), fun b hb hx => h.same b hb (fun hh => hx (List.mem_append_left _ (mem_FrW.2 hh)))⟩
end
section
variable {α : Type} (E : Elt α) {o : Oper} {a : Act} {Q : Exit → Act → World → Prop} (w : World)
/-- A row of elements, and no other block turns. -/
theorem wpList_append_elts2 {ops : Array Oper} {rest : List Oper} (hgd : o.guard = none) (s x : Operand) (t : TypeId)
    (ho : o.op = .call { callee := .builtin .append, args := #[s, x], argTypes := #[t, t] }) (ht : Tryz.prog.underlying t = some (.slice E.ty))
    (base : Nat) (ex : List Nat) (v : Value) (l : List α) (hs : a.eval s = v) (hown : OwnL E w base ex v l)
    (A : Option Addr) (m c : Nat) (l2 : List α) (hx : a.eval x = .slice A m c) (hm : m = l2.length) (news : List Value) (hr : Row w (own v ++ ex) A news) (he : Elts E w (own v ++ ex) l2 news)
    (hn : l.length + m ≤ 100000000000) (hbase : base ≤ w.heap.size)
    (h : ∀ v' w', OwnL E w' base ex v' (l ++ l2) → (∀ ex', Kr w (own v ++ ex') w' (own v' ++ ex')) → (∀ b ∈ own v', b ∈ own v ∨ w.heap.size ≤ b) → (∀ (B : Nat) (a : World), Below B a w → B ≤ base → Below B a w') → wpList Tryz.prog ops Q rest (a.put o.dst v') w') : wpList Tryz.prog ops Q (o :: rest) a w := by
  refine wpList_plain hgd fun K' hK => ?_
  obtain ⟨cs, h1, h2⟩ := hown
  obtain ⟨i, z, i1, i2, i3, i4, i5⟩ := E.info
  have hf := E.few
  refine wp_append_mine w s x t ho base E.ty i z E.size E.bytes ht i1 i2 i3 i4 i5 E.pos v l.length cs hs h1 (own v ++ ex) A m c news hx (by rw [he.length, hm]) hr he.one (by simp only [maxLen]; omega)
    (Nat.le_trans (Nat.mul_le_mul hn hf) (by decide)) hbase ?_
  intro v' w' g1 g2 gd g3
  have hk : ∀ ex', Kr w (own v ++ ex') w' (own v' ++ ex') := fun ex' => Kr.append g2 g3
  refine hK _ _ (h v' w' ⟨cs ++ news, ?_, (Elts.join he h2).mono (hk ex)⟩ hk ?_ (fun B a hb hB => Below.append hb g2 gd (Nat.le_trans hB hbase) (fun k hk => Nat.le_trans hB (h1.lt k hk).1)))
  · rw [List.length_append, ← hm]; exact g1
  · intro b hb
    rcases g3 with g3 | g3
    · left; simpa [own, g3] using hb
    · right; simp [own, g3] at hb; omega
end
end Go.Proofs.YthhdleppkggepaaGreat

/-
  The walks of package integer: sums and differences of absolute values.
-/
namespace Go.Proofs.YthhdleppkggepaaGreat
open Go.RowKit Go.Deep

theorem infoU32 : (Tryz.prog.info? 192).map (fun i => (i.zero, i.size, i.bytes)) = some (some (.int .u32 0), 1, 4) := by kernel_rfl

theorem makeNat (k : Int) (n : Nat) (hk : k = (n : Int)) (hn : n ≤ 10000000000) (w : World) :
    (Instr.makeSlice 169 (.int .i64 k) (.int .i64 k)).run Tryz.prog w = .ok (.slice (some ⟨w.heap.size, 0, none⟩) n n) (w.alloc (.cells (madeCells #[.int .u32 0] n) 192)) := by
  subst hk
  exact run_make_row' (P := Tryz.prog) 169 192 (.int .u32 0) 4 Tryz.underlying169 infoU32 rfl .i64 .i64 n (by omega) (by omega) w

set_option maxRecDepth 100000
set_option maxHeartbeats 1000000 in
theorem add_ok (w : World) (ex : List Nat) (A1 : Option Addr) (n1 c1 : Nat) (xs : List Nat) (A2 : Option Addr) (n2 c2 : Nat) (ys : List Nat)
    (hx : RW w ex A1 n1 c1 xs) (hy : RW w ex A2 n2 c2 ys) (hn1 : n1 ≤ 100000000) (hn2 : n2 ≤ 100000000) (hex : ∀ b ∈ ex, b < w.heap.size) :
    Calls Tryz.prog 175 #[.slice A1 n1 c1, .slice A2 n2 c2] w fun e w' => ∃ A m c X D, e = .returned (.slice A m c) ∧ w' = w.more X D ∧ RW (w.more X D) ex A m c (digits (val xs + val ys)) := by
  have HX := Lib.hid hx.len
  have HY := Lib.hid hy.len
  have HEX := Lib.hid hex
  clear hex
  by_cases hle : n1 < n2
  · have hmk := makeNat ((n2 : Int) + 1) (n2 + 1) (by omega) (by omega)
    have hm1 : n1 ≤ n2 := by omega
    have hm2 : n2 ≤ n2 := by omega
    go_enter Tryz.func175, Tryz.ntmps175
    go_wp2_with fail
    go_loopw [7, 18] (fun c i wr => ∃ (j cy : Nat) (os : List Nat), j ≤ n2 ∧ i = .int .i64 j ∧ c = .int .u32 cy ∧ cy ≤ 1 ∧ Buf 192 wr w.heap.size os ∧ Hid (os.length = n2 + 1) ∧ Wd os ∧
        Hid (val (os.take j) + 4294967296 ^ j * cy = val (xs.take j) + val (ys.take j)) ∧ Below w.heap.size w wr) (fun _ i _ => n2 - (intOf i).toNat)
    case atStart =>
      exact ⟨0, 0, _, Nat.zero_le _, rfl, rfl, by omega, Buf.new _ _ _, List.length_replicate, wd_replicate _, rfl, (Below.refl _ _).alloc (Nat.le_refl _) _⟩
    case round =>
      clear hmk
      obtain ⟨j, cy, os, hj, rfl, rfl, hcy, hbuf, HO, hwd, HV, hb⟩ := hrel
      have hxw := hx.mono (Kr.of_below hb ex)
      have hyw := hy.mono (Kr.of_below hb ex)
      have hgx := getD_lt hx.wd j
      have hgy := getD_lt hy.wd j
      by_cases hlt : j < n2
      · have hjo : j < os.length := by have := HO.out; omega
        have hcell := hbuf.cell hjo
        have hfroz := hbuf.frozen j
        go_wp2_with fail
        refine (at_ok wr ex _ _ _ xs hxw _ (by omega)).mono ?_; rintro e w1 ⟨rfl, rfl⟩
        rw [Int.toNat_natCast]
        generalize hX : xs.getD j 0 = x at *
        have HXj := Lib.hid hX; clear hX
        go_wp2_with fail
        refine (at_ok _ ex _ _ _ ys hyw _ (by omega)).mono ?_; rintro e w1 ⟨rfl, rfl⟩
        rw [Int.toNat_natCast]
        generalize hY : ys.getD j 0 = y at *
        have HYj := Lib.hid hY; clear hY
        go_wp2_with fail
        refine (add32_ok _ _ _ _ (by omega) (by omega) (by omega) (by omega) (by omega) (by omega)).mono ?_; rintro e w1 ⟨rfl, rfl⟩
        obtain ⟨s, hs⟩ : ∃ s : Nat, ((x : Int) + y + cy) % 4294967296 = (s : Int) := ⟨(x + y + cy) % 4294967296, by omega⟩
        obtain ⟨q, hq⟩ : ∃ q : Nat, ((x : Int) + y + cy) / 4294967296 = (q : Int) := ⟨(x + y + cy) / 4294967296, by omega⟩
        have hsl : s < 4294967296 := by omega
        have hql : q ≤ 1 := by omega
        have HE : Hid (x + y + cy = s + 4294967296 * q) := by show _ = _; omega
        rw [hs, hq]
        clear hs hq
        go_wp2_with fail
        go_roundw
        case rel =>
          refine ⟨j + 1, q, os.set j s, by omega, by go_num, rfl, hql, hbuf.set j s, by simpa using HO, hwd.set j hsl, ?_, hb.setCell (Nat.le_refl _) _⟩
          exact add_step hjo HXj.out HYj.out HV.out HE.out
        case measure => simp [intOf]; omega
      · obtain rfl : n2 = j := by omega
        have hjo : n2 < os.length := by have := HO.out; omega
        have hcell := hbuf.cell hjo
        have hfroz := hbuf.frozen n2
        go_wp2_with fail
        have hbuf2 := hbuf.set n2 cy
        have hrw : RW (wr.setCell ⟨w.heap.size, n2, none⟩ (.int .u32 (cy : Int))) ex (some ⟨w.heap.size, 0, none⟩) (n2 + 1) (n2 + 1) (os.set n2 cy) :=
          hbuf2.rw_ (fun h => absurd (HEX.out _ h) (by omega)) (hwd.set _ (by omega)) (by have := HO.out; simp; omega) (Nat.le_refl _)
        refine (norm_ok _ ex _ _ _ _ hrw (by omega)).mono ?_; rintro e w1 ⟨m, rfl, rfl, hres⟩
        go_wp2_with fail
        go_ret
        have hval : val (os.set n2 cy) = val xs + val ys := by
          have h1 : (os.set n2 cy).take (n2 + 1) = os.set n2 cy := List.take_of_length_le (by have := HO.out; simp; omega)
          rw [← h1, take_set_self _ _ _ hjo, val_append]
          have h2 := HV.out
          rw [List.take_of_length_le (l := xs) (by have := HX.out; omega), List.take_of_length_le (l := ys) (by have := HY.out; omega)] at h2
          simp only [val, List.length_take, Nat.mul_zero, Nat.add_zero]
          rw [show min n2 os.length = n2 from by omega]; exact h2
        rw [hval] at hres
        obtain ⟨X, D, h1, h2⟩ := grew (R := fun w' => RW w' ex (some ⟨w.heap.size, 0, none⟩) m m (digits (val xs + val ys))) (hb.setCell (Nat.le_refl _) (p := ⟨w.heap.size, n2, none⟩) (.int .u32 (cy : Int))) hres
        exact ⟨_, _, _, X, D, rfl, h1, h2⟩
  · have hmk := makeNat ((n1 : Int) + 1) (n1 + 1) (by omega) (by omega)
    have hm1 : n1 ≤ n1 := by omega
    have hm2 : n2 ≤ n1 := by omega
    go_enter Tryz.func175, Tryz.ntmps175
    go_wp2_with fail
    go_loopw [7, 18] (fun c i wr => ∃ (j cy : Nat) (os : List Nat), j ≤ n1 ∧ i = .int .i64 j ∧ c = .int .u32 cy ∧ cy ≤ 1 ∧ Buf 192 wr w.heap.size os ∧ Hid (os.length = n1 + 1) ∧ Wd os ∧
        Hid (val (os.take j) + 4294967296 ^ j * cy = val (xs.take j) + val (ys.take j)) ∧ Below w.heap.size w wr) (fun _ i _ => n1 - (intOf i).toNat)
    case atStart =>
      exact ⟨0, 0, _, Nat.zero_le _, rfl, rfl, by omega, Buf.new _ _ _, List.length_replicate, wd_replicate _, rfl, (Below.refl _ _).alloc (Nat.le_refl _) _⟩
    case round =>
      clear hmk
      obtain ⟨j, cy, os, hj, rfl, rfl, hcy, hbuf, HO, hwd, HV, hb⟩ := hrel
      have hxw := hx.mono (Kr.of_below hb ex)
      have hyw := hy.mono (Kr.of_below hb ex)
      have hgx := getD_lt hx.wd j
      have hgy := getD_lt hy.wd j
      by_cases hlt : j < n1
      · have hjo : j < os.length := by have := HO.out; omega
        have hcell := hbuf.cell hjo
        have hfroz := hbuf.frozen j
        go_wp2_with fail
        refine (at_ok wr ex _ _ _ xs hxw _ (by omega)).mono ?_; rintro e w1 ⟨rfl, rfl⟩
        rw [Int.toNat_natCast]
        generalize hX : xs.getD j 0 = x at *
        have HXj := Lib.hid hX; clear hX
        go_wp2_with fail
        refine (at_ok _ ex _ _ _ ys hyw _ (by omega)).mono ?_; rintro e w1 ⟨rfl, rfl⟩
        rw [Int.toNat_natCast]
        generalize hY : ys.getD j 0 = y at *
        have HYj := Lib.hid hY; clear hY
        go_wp2_with fail
        refine (add32_ok _ _ _ _ (by omega) (by omega) (by omega) (by omega) (by omega) (by omega)).mono ?_; rintro e w1 ⟨rfl, rfl⟩
        obtain ⟨s, hs⟩ : ∃ s : Nat, ((x : Int) + y + cy) % 4294967296 = (s : Int) := ⟨(x + y + cy) % 4294967296, by omega⟩
        obtain ⟨q, hq⟩ : ∃ q : Nat, ((x : Int) + y + cy) / 4294967296 = (q : Int) := ⟨(x + y + cy) / 4294967296, by omega⟩
        have hsl : s < 4294967296 := by omega
        have hql : q ≤ 1 := by omega
        have HE : Hid (x + y + cy = s + 4294967296 * q) := by show _ = _; omega
        rw [hs, hq]
        clear hs hq
        go_wp2_with fail
        go_roundw
        case rel =>
          refine ⟨j + 1, q, os.set j s, by omega, by go_num, rfl, hql, hbuf.set j s, by simpa using HO, hwd.set j hsl, ?_, hb.setCell (Nat.le_refl _) _⟩
          exact add_step hjo HXj.out HYj.out HV.out HE.out
        case measure => simp [intOf]; omega
      · obtain rfl : n1 = j := by omega
        have hjo : n1 < os.length := by have := HO.out; omega
        have hcell := hbuf.cell hjo
        have hfroz := hbuf.frozen n1
        go_wp2_with fail
        have hbuf2 := hbuf.set n1 cy
        have hrw : RW (wr.setCell ⟨w.heap.size, n1, none⟩ (.int .u32 (cy : Int))) ex (some ⟨w.heap.size, 0, none⟩) (n1 + 1) (n1 + 1) (os.set n1 cy) :=
          hbuf2.rw_ (fun h => absurd (HEX.out _ h) (by omega)) (hwd.set _ (by omega)) (by have := HO.out; simp; omega) (Nat.le_refl _)
        refine (norm_ok _ ex _ _ _ _ hrw (by omega)).mono ?_; rintro e w1 ⟨m, rfl, rfl, hres⟩
        go_wp2_with fail
        go_ret
        have hval : val (os.set n1 cy) = val xs + val ys := by
          have h1 : (os.set n1 cy).take (n1 + 1) = os.set n1 cy := List.take_of_length_le (by have := HO.out; simp; omega)
          rw [← h1, take_set_self _ _ _ hjo, val_append]
          have h2 := HV.out
          rw [List.take_of_length_le (l := xs) (by have := HX.out; omega), List.take_of_length_le (l := ys) (by have := HY.out; omega)] at h2
          simp only [val, List.length_take, Nat.mul_zero, Nat.add_zero]
          rw [show min n1 os.length = n1 from by omega]; exact h2
        rw [hval] at hres
        obtain ⟨X, D, h1, h2⟩ := grew (R := fun w' => RW w' ex (some ⟨w.heap.size, 0, none⟩) m m (digits (val xs + val ys))) (hb.setCell (Nat.le_refl _) (p := ⟨w.heap.size, n1, none⟩) (.int .u32 (cy : Int))) hres
        exact ⟨_, _, _, X, D, rfl, h1, h2⟩


end Go.Proofs.YthhdleppkggepaaGreat

/-
  The walks of package integer: differences and products of absolute values.
-/
namespace Go.Proofs.YthhdleppkggepaaGreat
open Go.RowKit Go.Deep
set_option maxRecDepth 100000

set_option maxHeartbeats 1000000 in
theorem sub_ok (w : World) (ex : List Nat) (A1 : Option Addr) (n1 c1 : Nat) (a : Nat) (A2 : Option Addr) (n2 c2 : Nat) (b : Nat)
    (hx : RW w ex A1 n1 c1 (digits a)) (hy : RW w ex A2 n2 c2 (digits b)) (hle : b ≤ a) (hn1 : n1 ≤ 100000000) (hex : ∀ b ∈ ex, b < w.heap.size) :
    Calls Tryz.prog 176 #[.slice A1 n1 c1, .slice A2 n2 c2] w fun e w' => ∃ A m c X D, e = .returned (.slice A m c) ∧ w' = w.more X D ∧ RW (w.more X D) ex A m c (digits (a - b)) := by
  have HX := Lib.hid hx.len
  have HY := Lib.hid hy.len
  have hn2 : n2 ≤ n1 := by have h1 := hx.len; have h2 := hy.len; have := length_digits_mono hle; omega
  have HEX := Lib.hid hex
  clear hex
  have hmk := makeNat (n1 : Int) n1 rfl (by omega)
  go_enter Tryz.func176, Tryz.ntmps176
  go_wp2_with fail
  go_loopw [6, 13] (fun c i wr => ∃ (j cy : Nat) (os : List Nat), j ≤ n1 ∧ i = .int .i64 j ∧ c = .int .u32 cy ∧ cy ≤ 1 ∧ Buf 192 wr w.heap.size os ∧ Hid (os.length = n1) ∧ Wd os ∧
      Hid (val (os.take j) + val ((digits b).take j) = val ((digits a).take j) + 4294967296 ^ j * cy) ∧ Below w.heap.size w wr) (fun _ i _ => n1 - (intOf i).toNat)
  case atStart =>
    exact ⟨0, 0, _, Nat.zero_le _, rfl, rfl, by omega, Buf.new _ _ _, List.length_replicate, wd_replicate _, rfl, (Below.refl _ _).alloc (Nat.le_refl _) _⟩
  case round =>
    clear hmk
    obtain ⟨j, cy, os, hj, rfl, rfl, hcy, hbuf, HO, hwd, HV, hb⟩ := hrel
    have hxw := hx.mono (Kr.of_below hb ex)
    have hyw := hy.mono (Kr.of_below hb ex)
    have hgx := getD_lt hx.wd j
    have hgy := getD_lt hy.wd j
    by_cases hlt : j < n1
    · have hjo : j < os.length := by have := HO.out; omega
      have hjx : j < (digits a).length := by have := HX.out; omega
      have hcell := hbuf.cell hjo
      have hfroz := hbuf.frozen j
      obtain ⟨bx, ox, rfl, hbx, hcx⟩ := hxw.at_ (by omega)
      have hcellx := hcx j hjx
      have hbxl : bx < w.heap.size := hx.lt (by omega)
      have HCX := Lib.hid hcx; clear hcx
      have hGX : Hid ((digits a).getD j 0 = (digits a)[j]) := by
        show _ = _
        rw [List.getD_eq_getElem?_getD, List.getElem?_eq_getElem hjx]; rfl
      obtain ⟨x, hX⟩ : ∃ x : Nat, (digits a)[j] = x := ⟨_, rfl⟩
      have hxl : x < 4294967296 := by rw [← hX]; exact wd_digits a _ (List.getElem_mem hjx)
      rw [hX] at hcellx
      have HXj := Lib.hid hX; clear hX
      obtain ⟨y, hY⟩ : ∃ y : Nat, (digits b).getD j 0 = y := ⟨_, rfl⟩
      rw [hY] at hgy
      have HYj := Lib.hid hY; clear hY
      obtain ⟨s, hs⟩ : ∃ s : Nat, ((x : Int) - y - cy) % 4294967296 = (s : Int) := ⟨(((x : Int) - y - cy) % 4294967296).toNat, by omega⟩
      obtain ⟨q, hq⟩ : ∃ q : Nat, (if (x : Int) < y + cy then (1 : Int) else 0) = (q : Int) := ⟨if (x : Int) < y + cy then 1 else 0, by split <;> rfl⟩
      have hsl : s < 4294967296 := by omega
      have hql : q ≤ 1 := by split at hq <;> omega
      have HE : Hid (s + y + cy = x + 4294967296 * q) := by show _ = _; split at hq <;> omega
      have HS := Lib.hid hs; clear hs
      have HQ := Lib.hid hq; clear hq
      go_wp2_with fail
      go_region_held3 (fun w' => w'.cell? ⟨bx, ox + j, none⟩ = some (.int .u32 x) ∧ w'.cell? ⟨w.heap.size, j, none⟩ = some (World.got w' w.heap.size j) ∧ w'.frozen? ⟨w.heap.size, j, none⟩ = false)
        ((repeat' apply And.intro) <;> first | (simp [*, go_sem, ↓IntWalk.iteOmega]; done) | (refine got_of ?_; simp [*, go_sem, ↓IntWalk.iteOmega]; done))
        (first
          | (go_at_call 211; refine (at_ok _ ex _ _ _ (digits b) (by first | exact hyw | exact hyw.mono ((Kr.refl _ _).drew)) _ (by omega)).mono ?_; rintro e w1 ⟨rfl, rfl⟩; rw [Int.toNat_natCast, HYj.out])
          | (go_at_call 212; refine (sub32_ok _ _ _ _ (by omega) (by omega) (by omega) (by omega) (by omega) (by omega)).mono ?_; rintro e w1 ⟨rfl, rfl⟩; rw [HS.out, HQ.out]))
      go_wp2_with fail
      go_roundw
      case rel =>
        refine ⟨j + 1, q, os.set j s, by omega, by go_num, rfl, hql, (hbuf.set j s).of rfl, by simpa using HO, hwd.set j hsl, ?_, (hb.setCell (Nat.le_refl _) _).drew⟩
        exact sub_step hjo (hGX.out.trans HXj.out) HYj.out HV.out HE.out
      case measure => simp [intOf]; omega
    · obtain rfl : n1 = j := by omega
      go_wp2_with fail
      have hrw : RW wr ex (some ⟨w.heap.size, 0, none⟩) n1 n1 os := hbuf.rw_ (fun h => absurd (HEX.out _ h) (by omega)) hwd (by have := HO.out; omega) (Nat.le_refl _)
      refine (norm_ok _ ex _ _ _ _ hrw (by omega)).mono ?_; rintro e w1 ⟨m, rfl, rfl, hres⟩
      go_wp2_with fail
      go_ret
      have hval : val os = a - b := by
        have := sub_end hwd HO.out HX.out.symm (by have := HY.out; omega) HV.out (by rw [val_digits, val_digits]; exact hle)
        rwa [val_digits, val_digits] at this
      rw [hval] at hres
      obtain ⟨X, D, h1, h2⟩ := grew (R := fun w' => RW w' ex (some ⟨w.heap.size, 0, none⟩) m m (digits (a - b))) hb hres
      exact ⟨_, _, _, X, D, rfl, h1, h2⟩

end Go.Proofs.YthhdleppkggepaaGreat

/-
  The walks of package integer: products of absolute values.
-/
namespace Go.Proofs.YthhdleppkggepaaGreat
open Go.RowKit Go.Deep
set_option maxRecDepth 100000

theorem mul_word {a y : Nat} (ha : a < 4294967296) (hy : y < 4294967296) : a * y ≤ 18446744065119617025 := by
  have := Nat.mul_le_mul (Nat.le_of_lt_succ (show a < 4294967295 + 1 from ha)) (Nat.le_of_lt_succ (show y < 4294967295 + 1 from hy))
  omega

set_option maxHeartbeats 2000000 in
theorem nmul_ok (w : World) (ex : List Nat) (A1 : Option Addr) (n1 c1 : Nat) (xs : List Nat) (A2 : Option Addr) (n2 c2 : Nat) (ys : List Nat)
    (hx : RW w ex A1 n1 c1 xs) (hy : RW w ex A2 n2 c2 ys) (hn1 : n1 ≤ 100000000) (hn2 : n2 ≤ 100000000) (hex : ∀ b ∈ ex, b < w.heap.size) :
    Calls Tryz.prog 177 #[.slice A1 n1 c1, .slice A2 n2 c2] w fun e w' => ∃ A m c X D, e = .returned (.slice A m c) ∧ w' = w.more X D ∧ RW (w.more X D) ex A m c (digits (val xs * val ys)) := by
  have HX := Lib.hid hx.len
  have HY := Lib.hid hy.len
  have HEX := Lib.hid hex
  clear hex
  have hmk := makeNat ((n1 : Int) + (n2 : Int)) (n1 + n2) (by omega) (by omega)
  go_enter Tryz.func177, Tryz.ntmps177
  go_wp2_with fail
  go_loopw [19] (fun i wr => ∃ (j : Nat) (os : List Nat), j ≤ n1 ∧ i = .int .i64 j ∧ Buf 192 wr w.heap.size os ∧ Hid (os.length = n1 + n2) ∧ Wd os ∧
      Hid (val (os.take (j + n2)) = val (xs.take j) * val ys) ∧ Below w.heap.size w wr) (fun i _ => n1 - (intOf i).toNat)
  case atStart =>
    refine ⟨0, _, Nat.zero_le _, rfl, Buf.new _ _ _, List.length_replicate, wd_replicate _, ?_, (Below.refl _ _).alloc (Nat.le_refl _) _⟩
    show _ = _
    rw [List.take_replicate, val_replicate_zero]; simp [val]
  case round =>
    clear hmk
    obtain ⟨j, os0, hj, rfl, hbuf0, HO0, hwd0, HV0, hb0⟩ := hrel
    obtain ⟨wo, rfl⟩ : ∃ wo : World, wo = wr := ⟨_, rfl⟩
    have hxw := hx.mono (Kr.of_below hb0 ex)
    by_cases hlt : j < n1
    · have hjx : j < xs.length := by have := HX.out; omega
      obtain ⟨bx, ox, rfl, hbx, hcx⟩ := hxw.at_ (by omega)
      have hcellx := hcx j hjx
      have HCX := Lib.hid hcx; clear hcx
      have hGX : Hid (xs.getD j 0 = xs[j]) := by
        show _ = _
        rw [List.getD_eq_getElem?_getD, List.getElem?_eq_getElem hjx]; rfl
      obtain ⟨a, hA⟩ : ∃ a : Nat, xs[j] = a := ⟨_, rfl⟩
      have hal : a < 4294967296 := by rw [← hA]; exact hx.wd _ (List.getElem_mem hjx)
      rw [hA] at hcellx
      have HAj := Lib.hid hA; clear hA
      go_wp2_with fail
      go_loopw [8, 26] (fun c i wr => ∃ (k cy : Nat) (os : List Nat), k ≤ n2 ∧ i = .int .i64 k ∧ c = .int .u64 cy ∧ cy < 4294967296 ∧ Buf 192 wr w.heap.size os ∧ Hid (os.length = n1 + n2) ∧ Wd os ∧
          Hid (val (os.take (j + k)) + 4294967296 ^ (j + k) * cy = val (os0.take (j + k)) + 4294967296 ^ j * (a * val (ys.take k))) ∧
          Hid (∀ i, j + k ≤ i → os[i]? = os0[i]?) ∧ Below w.heap.size w wr) (fun _ i _ => n2 - (intOf i).toNat)
      case atStart =>
        refine ⟨0, 0, os0, Nat.zero_le _, rfl, rfl, by omega, hbuf0, HO0, hwd0, ?_, fun _ _ => rfl, hb0⟩
        show _ = _
        simp [val]
      case round =>
        obtain ⟨k, cy, os, hk, rfl, rfl, hcy, hbuf, HO, hwd, HV, HSame, hb⟩ := hrel
        have hyw := hy.mono (Kr.of_below hb ex)
        by_cases hlt2 : k < n2
        · have hjo : j + k < os.length := by have := HO.out; omega
          have hky : k < ys.length := by have := HY.out; omega
          have hcell := hbuf.cell hjo
          have hfroz := hbuf.frozen (j + k)
          obtain ⟨o, hO⟩ : ∃ o : Nat, os[j + k] = o := ⟨_, rfl⟩
          have hol : o < 4294967296 := by rw [← hO]; exact hwd _ (List.getElem_mem hjo)
          rw [hO] at hcell
          have HOo := Lib.hid hO; clear hO
          obtain ⟨by_, oy, rfl, hby, hcy_⟩ := hyw.at_ (by omega)
          have hcelly := hcy_ k hky
          have HCY := Lib.hid hcy_; clear hcy_
          have hGY : Hid (ys.getD k 0 = ys[k]) := by
            show _ = _
            rw [List.getD_eq_getElem?_getD, List.getElem?_eq_getElem hky]; rfl
          obtain ⟨y, hY⟩ : ∃ y : Nat, ys[k] = y := ⟨_, rfl⟩
          have hyl : y < 4294967296 := by rw [← hY]; exact hy.wd _ (List.getElem_mem hky)
          rw [hY] at hcelly
          have HYk := Lib.hid hY; clear hY
          obtain ⟨p, hp⟩ : ∃ p : Nat, a * y = p := ⟨_, rfl⟩
          have hpl : p ≤ 18446744065119617025 := by rw [← hp]; exact mul_word hal hyl
          have hpi : (a : Int) * (y : Int) = (p : Int) := by rw [← hp]; rfl
          obtain ⟨s, hs⟩ : ∃ s : Nat, ((cy : Int) + ((p : Int) + o)) % 4294967296 = (s : Int) := ⟨(cy + (p + o)) % 4294967296, by omega⟩
          obtain ⟨q, hq⟩ : ∃ q : Nat, ((cy : Int) + ((p : Int) + o)) / 4294967296 = (q : Int) := ⟨(cy + (p + o)) / 4294967296, by omega⟩
          have hsl : s < 4294967296 := by omega
          have hql : q < 4294967296 := by omega
          have HE : Hid (cy + (a * y + o) = s + 4294967296 * q) := by show _ = _; rw [hp]; omega
          have HP := Lib.hid hp; clear hp
          go_wp2_with fail
          go_roundw
          case rel =>
            refine ⟨k + 1, q, os.set (j + k) s, by omega, by go_num, rfl, hql, hbuf.set (j + k) s, by simpa using HO, hwd.set _ hsl, ?_, ?_, hb.setCell (Nat.le_refl _) _⟩
            · exact mul_step hjo (HO.out.trans HO0.out.symm) (hGY.out.trans HYk.out) HOo.out HSame.out HV.out HE.out
            · intro i hi
              rw [List.getElem?_set_ne (by omega)]
              exact HSame.out i (by omega)
          case measure => simp [intOf]; omega
        · obtain rfl : n2 = k := by omega
          have hjo : j + n2 < os.length := by have := HO.out; omega
          have hcell := hbuf.cell hjo
          have hfroz := hbuf.frozen (j + n2)
          have hcyi : (cy : Int) % 4294967296 = cy := by omega
          go_wp2_with fail
          go_roundw
          case rel =>
            refine ⟨j + 1, os.set (j + n2) cy, by omega, by go_num, hbuf.set (j + n2) cy, by simpa using HO, hwd.set _ hcy, ?_, hb.setCell (Nat.le_refl _) _⟩
            have h1 := HV.out
            rw [List.take_of_length_le (l := ys) (by have := HY.out; omega)] at h1
            exact mul_row hjo (hGX.out.trans HAj.out) HV0.out h1
          case measure => simp [intOf]; omega
    · obtain rfl : n1 = j := by omega
      go_wp2_with fail
      have hrw : RW wo ex (some ⟨w.heap.size, 0, none⟩) (n1 + n2) (n1 + n2) os0 := hbuf0.rw_ (fun h => absurd (HEX.out _ h) (by omega)) hwd0 (by have := HO0.out; omega) (Nat.le_refl _)
      refine (norm_ok _ ex _ _ _ _ hrw (by omega)).mono ?_; rintro e w1 ⟨m, rfl, rfl, hres⟩
      go_wp2_with fail
      go_ret
      have hval : val os0 = val xs * val ys := by
        have := HV0.out
        rwa [List.take_of_length_le (l := os0) (by have := HO0.out; omega), List.take_of_length_le (l := xs) (by have := HX.out; omega)] at this
      rw [hval] at hres
      obtain ⟨X, D, h1, h2⟩ := grew (R := fun w' => RW w' ex (some ⟨w.heap.size, 0, none⟩) m m (digits (val xs * val ys))) hb0 hres
      exact ⟨_, _, _, X, D, rfl, h1, h2⟩

end Go.Proofs.YthhdleppkggepaaGreat
