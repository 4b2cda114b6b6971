/-
  The bytes that package claim writes: the writer, and nat.
-/
import Derived.Test.YthhdleppkggepaaGreatSb03
import Derived.Test.YthhdleppkggepaaGreatSb07
import Derived.Test.YthhdleppkggepaaGreatSb12

set_option linter.unusedSimpArgs false
set_option linter.unusedVariables false
set_option linter.unusedSectionVars false

namespace Go.Proofs.YthhdleppkggepaaGreat
open Go.RowKit Go.Deep
set_option maxRecDepth 100000

theorem infoByte : (Tryz.prog.info? 5).map (fun i => (i.zero, i.size, i.bytes)) = some (some (.int .u8 0), 1, 1) := by kernel_rfl
def byE : Elt Nat where
  ty := 5
  size := 1
  bytes := 1
  rd := fun _ _ x vs => vs = [.int .u8 x]
  pos := by decide
  few := by decide
  mono := by
    rintro w w' ex ex' x vs k rfl
    rfl
  len := by
    rintro w ex x vs rfl
    rfl
  one := by
    rintro w ex x vs rfl u hu
    simp only [List.mem_cons, List.not_mem_nil, or_false] at hu
    subst hu; rfl
  info := by
    obtain ⟨i, h1, h2, h3, h4⟩ := info_parts infoByte
    exact ⟨i, _, h1, h2, h3, h4, rfl⟩
/-- A writer: its cell holds a slice of its own, whose bytes are bs. -/
structure WS (w : World) (base g : Nat) (v : Value) (bs : List Nat) : Prop where
  cell : w.cell? ⟨g, 0, none⟩ = some v
  froz : w.frozen? ⟨g, 0, none⟩ = false
  mine : OwnL byE w base [] v bs
  lt : g < base
  le : base ≤ w.heap.size
def RetWr (w : World) (base g : Nat) (v : Value) (bs : List Nat) (e : Ending) (w' : World) : Prop :=
  ∃ v', e = .returned (.tuple #[]) ∧ WS w' base g v' bs ∧ (∀ ex, Kr w ([g] ++ (own v ++ ex)) w' ([g] ++ (own v' ++ ex))) ∧ Below g w w'
theorem byElts {w w' : World} {ex ex' : List Nat} : ∀ {l : List Nat} {cs : List Value}, Elts byE w ex l cs → Elts byE w' ex' l cs
  | [], _, h => h
  | _ :: _, _, ⟨vs, r, e, h1, h2⟩ => ⟨vs, r, e, h1, byElts h2⟩
theorem byOwn {w w' : World} {base : Nat} {ex ex' : List Nat} {v : Value} {l : List Nat} (h : OwnL byE w base ex v l) (hs : ∀ b ∈ own v, w'.heap[b]? = w.heap[b]?) : OwnL byE w' base ex' v l := by
  obtain ⟨cs, h1, h2⟩ := h
  refine ⟨cs, ⟨h1.1, ?_⟩, byElts h2⟩
  rcases h1.2 with h3 | ⟨g, cap, cur, hv, hg, hc, h4⟩
  · exact .inl h3
  · exact .inr ⟨g, cap, cur, hv, hg, by rw [hs g (by simp [hv, own, Value.ownBlock])]; exact hc, h4⟩
theorem WS.out {w : World} {base g : Nat} {v : Value} {bs : List Nat} (h : WS w base g v bs) : g ∉ own v := fun hh => by
  have := (h.mine.le g hh).1; have := h.lt; omega
theorem WS.glt {w : World} {base g : Nat} {v : Value} {bs : List Nat} (h : WS w base g v bs) : g < w.heap.size := Nat.lt_of_lt_of_le h.lt h.le
section
variable {w w1 w2 : World} {base g : Nat} {v v2 : Value} {bs l2 : List Nat}
/-- Behind an append, ahead of the store. -/
theorem WS.mid (h : WS w base g v bs) (hb : Below w.heap.size w w1) (hk : ∀ ex', Kr w1 (own v ++ ex') w2 (own v2 ++ ex')) : w2.cell? ⟨g, 0, none⟩ = some v ∧ w2.frozen? ⟨g, 0, none⟩ = false := by
  have hg := h.glt
  have hg1 : g < w1.heap.size := Nat.lt_of_lt_of_le hg hb.size
  have ho : g ∉ own v ++ [] := by simpa using h.out
  exact ⟨((hk []).cell hg1 ho 0).trans ((hb.at0 hg 0).trans h.cell), ((hk []).froz hg1 ho 0).trans ((hb.frozen hg).trans h.froz)⟩
/-- .. and behind the store. -/
theorem WS.step (h : WS w base g v bs) (hb : Below w.heap.size w w1) (hk : ∀ ex', Kr w1 (own v ++ ex') w2 (own v2 ++ ex')) (ho : OwnL byE w2 base [] v2 l2) (hbl : ∀ (B : Nat) (a : World), Below B a w1 → B ≤ base → Below B a w2) :
    WS (w2.setCell ⟨g, 0, none⟩ v2) base g v2 l2 ∧ (∀ ex, Kr w ([g] ++ (own v ++ ex)) (w2.setCell ⟨g, 0, none⟩ v2) ([g] ++ (own v2 ++ ex))) ∧ Below g w (w2.setCell ⟨g, 0, none⟩ v2) := by
  obtain ⟨hc, hf⟩ := h.mid hb hk
  have hg2 : g < base := h.lt
  have hle2 : base ≤ w2.heap.size := Nat.le_trans (Nat.le_trans h.le hb.size) (hk []).size
  have hout : g ∉ own v2 := fun hh => by have := (ho.le g hh).1; omega
  refine ⟨⟨?_, ?_, ?_, hg2, by simpa using hle2⟩, fun ex => ?_, ?_⟩
  · simp [hc, go_sem, ↓IntWalk.iteOmega]
  · simp [hf, go_sem, ↓IntWalk.iteOmega]
  · exact byOwn ho (fun b hb => Below.heap_setCell _ _ _ _ (fun e => hout (by rw [show g = b from e.symm]; exact hb)))
  · have k1 := Kr.of_below hb ([g] ++ (own v ++ ex))
    have k2 := (hk ([g] ++ ex)).perm (e1 := [g] ++ (own v ++ ex)) (e2 := [g] ++ (own v2 ++ ex)) (by intro b; simp only [List.mem_append]; grind) (by intro b; simp only [List.mem_append]; grind)
    exact (k1.trans k2).trans (Kr.setCell (Kr.refl _ _) _ (by simp))
  · exact (hbl _ _ (hb.mono (Nat.le_of_lt h.glt)) (Nat.le_of_lt hg2)).setCell (Nat.le_refl _) _
end
theorem natB_dec {n : Nat} (h : ¬ n < 128) : n / 128 < n := by omega
/-- A natural number's bytes. -/
def natB (n : Nat) : List Nat := if h : n < 128 then [n] else (n % 256 ||| 128) :: natB (n / 128)
termination_by n
decreasing_by exact natB_dec h
theorem natB_small {n : Nat} (h : n < 128) : natB n = [n] := by rw [natB, dif_pos h]
theorem natB_big {n : Nat} (h : ¬ n < 128) : natB n = (n % 256 ||| 128) :: natB (n / 128) := by rw [natB, dif_neg h]

set_option maxHeartbeats 4000000 in
theorem wnat_ok (w : World) (base g : Nat) (v : Value) (bs : List Nat) (n : Nat) (hs : WS w base g v bs) (hn : n < 18446744073709551616) (hl : bs.length + (natB n).length ≤ 10000000000) :
    Calls Tryz.prog 194 #[.pointer (some ⟨g, 0, none⟩), .int .u64 n] w (RetWr w base g v (bs ++ natB n)) := by
  have HL := Lib.hid hl
  have HS := Lib.hid hs
  clear hl
  go_enter Tryz.func194, Tryz.ntmps194
  go_wp2_with fail
  go_loopw [1] (fun x wr => ∃ (m : Nat) (L : List Nat) (v' : Value), x = .int .u64 m ∧ m < 18446744073709551616 ∧ WS wr base g v' L ∧ L ++ natB m = bs ++ natB n ∧ (∀ ex, Kr w ([g] ++ (own v ++ ex)) wr ([g] ++ (own v' ++ ex))) ∧ Below g w wr) (fun x _ => (intOf x).toNat)
  case atStart => exact ⟨n, bs, v, rfl, hn, hs, rfl, fun _ => Kr.refl _ _, Below.refl _ _⟩
  case round =>
    obtain ⟨m, L, v', rfl, hm, hw, he, hk, hb⟩ := hrel
    have c0 := hw.cell
    have f0 := hw.froz
    by_cases hlt : m < 128
    · have hlt' : ¬ (128 : Int) ≤ (m : Int) := by omega
      have hw8 : IntKind.u8.wrap (m : Int) = (m : Int) := by simp [IntKind.wrap, IntKind.bits, IntKind.signed]; omega
      have hlen : L.length < 100000000000 := by
        have := HL.out; have h2 := congrArg List.length he; rw [List.length_append, List.length_append] at h2; omega
      obtain ⟨A', c', rfl, hc'⟩ := hw.mine.form rfl
      go_wp2_with (at_builtin; go_loud (refine wpList_append_elt2 byE _ rfl _ _ 35 rfl Tryz.underlying35 base [] (.slice A' L.length c') L rfl (hw.mine.keep (by repeat first | with_reducible exact .refl .. | with_reducible assumption | refine .s ?_ ?_ | refine .m ?_ ?_ | refine .l ?_ ?_ | refine .d ?_ | refine .e ?_ | (simp <;> omega) | omega)) _ _ rfl m [.int .u8 m] (cell_new _ _ _ _ (by simp)) (by intro hh; rw [List.append_nil] at hh; have := (hw.mine.le _ hh).2; omega) rfl hlen (by have := hw.le; simp; omega) ?_; intro v2 w2 ho2 hk2 hbl1 hbl2; obtain ⟨A2, c2, rfl, hc2⟩ := ho2.form (k := L.length + 1) (by simp); have hmid := hw.mid (show Below wr.heap.size wr _ from (by repeat first | with_reducible exact .refl .. | with_reducible assumption | refine .s ?_ ?_ | refine .m ?_ ?_ | refine .l ?_ ?_ | refine .d ?_ | refine .e ?_ | (simp <;> omega) | omega)) hk2; have hst := hw.step (show Below wr.heap.size wr _ from (by repeat first | with_reducible exact .refl .. | with_reducible assumption | refine .s ?_ ?_ | refine .m ?_ ?_ | refine .l ?_ ?_ | refine .d ?_ | refine .e ?_ | (simp <;> omega) | omega)) hk2 ho2 hbl2; have m0 := hmid.1; have m1 := hmid.2; clear hmid))
      go_wp2_with fail
      go_end0
      have e1 : L ++ [m] = bs ++ natB n := by rw [← he, natB_small hlt]
      rw [e1] at hst
      exact ⟨_, rfl, hst.1, fun ex => (hk ex).trans (hst.2.1 ex), hb.trans hst.2.2⟩
    · have hlt' : (128 : Int) ≤ (m : Int) := by omega
      have hor := or8_val (m % 256) 128 (by omega) (by omega)
      obtain ⟨y, hy⟩ : ∃ y, y = m % 256 ||| 128 := ⟨_, rfl⟩
      rw [← hy] at hor
      have hor' : Go.bits .or .u8 ((m : Int) % 256) 128 = (y : Int) := by simpa using hor
      clear hor
      have HY := Lib.hid hy; clear hy
      have hlen : L.length < 100000000000 := by
        have := HL.out; have h2 := congrArg List.length he; rw [List.length_append, List.length_append] at h2; omega
      obtain ⟨A', c', rfl, hc'⟩ := hw.mine.form rfl
      go_wp2_with (at_builtin; go_loud (refine wpList_append_elt2 byE _ rfl _ _ 35 rfl Tryz.underlying35 base [] (.slice A' L.length c') L rfl (hw.mine.keep (by repeat first | with_reducible exact .refl .. | with_reducible assumption | refine .s ?_ ?_ | refine .m ?_ ?_ | refine .l ?_ ?_ | refine .d ?_ | refine .e ?_ | (simp <;> omega) | omega)) _ _ rfl y [.int .u8 y] (cell_new _ _ _ _ (by simp)) (by intro hh; rw [List.append_nil] at hh; have := (hw.mine.le _ hh).2; omega) rfl hlen (by have := hw.le; simp; omega) ?_; intro v2 w2 ho2 hk2 hbl1 hbl2; obtain ⟨A2, c2, rfl, hc2⟩ := ho2.form (k := L.length + 1) (by simp); have hmid := hw.mid (show Below wr.heap.size wr _ from (by repeat first | with_reducible exact .refl .. | with_reducible assumption | refine .s ?_ ?_ | refine .m ?_ ?_ | refine .l ?_ ?_ | refine .d ?_ | refine .e ?_ | (simp <;> omega) | omega)) hk2; have hst := hw.step (show Below wr.heap.size wr _ from (by repeat first | with_reducible exact .refl .. | with_reducible assumption | refine .s ?_ ?_ | refine .m ?_ ?_ | refine .l ?_ ?_ | refine .d ?_ | refine .e ?_ | (simp <;> omega) | omega)) hk2 ho2 hbl2; have m0 := hmid.1; have m1 := hmid.2; clear hmid))
      go_wp2_with fail
      go_roundw
      case rel =>
        refine ⟨m / 128, L ++ [y], _, ?_, by omega, hst.1, ?_, fun ex => (hk ex).trans (hst.2.1 ex), hb.trans hst.2.2⟩
        · go_num
        · rw [← he, natB_big hlt, HY.out]; simp
      case measure => simp [intOf]; omega

end Go.Proofs.YthhdleppkggepaaGreat

/-
  The bytes that package claim writes: number, whole, rational.
-/
namespace Go.Proofs.YthhdleppkggepaaGreat
open Go.RowKit Go.Deep
set_option maxRecDepth 100000

/-- A writer after blocks were made. -/
theorem WS.keep {w w' : World} {base g : Nat} {v : Value} {bs : List Nat} (h : WS w base g v bs) (hb : Below w.heap.size w w') : WS w' base g v bs :=
  ⟨(hb.at0 h.glt 0).trans h.cell, (hb.frozen (p := ⟨g, 0, none⟩) h.glt).trans h.froz, h.mine.keep hb, h.lt, Nat.le_trans h.le hb.size⟩
/-- A block that was there keeps its cells. -/
theorem WS.far {w : World} {base g : Nat} {v : Value} {bs : List Nat} (h : WS w base g v bs) {b : Nat} (hb : w.heap.size ≤ b) : b ∉ [g] ++ (own v ++ ([] : List Nat)) := by
  intro hh
  rcases List.mem_append.1 hh with hh | hh
  · have := h.glt; simp at hh; omega
  · rw [List.append_nil] at hh; have := (h.mine.le b hh).2; omega

def numB (n : Nat) : List Nat := natB (2 * n)
def b4 (x : Nat) : List Nat := [x / 16777216 % 256, x / 65536 % 256, x / 256 % 256, x % 256]
def wholeB (z : Int) : List Nat := natB (2 * (digits z.natAbs).length + if z < 0 then 1 else 0) ++ (digits z.natAbs).flatMap b4
def ratB (q : Rat) : List Nat := wholeB q.num ++ wholeB (q.den : Int)

theorem xor_zero64 {a b : Int} (ha0 : 0 ≤ a) (ha : a < 18446744073709551616) (hb : b = 0) : Go.bits .xor .u64 a b = a := by
  subst hb
  obtain ⟨m, rfl⟩ := Int.eq_ofNat_of_zero_le ha0
  show IntKind.u64.wrap ((BitVec.ofInt 64 (m : Int) ^^^ BitVec.ofInt 64 0).toNat : Int) = _
  rw [BitVec.ofInt_natCast, show BitVec.ofInt 64 0 = 0#64 from rfl, BitVec.xor_zero, BitVec.toNat_ofNat, Nat.mod_eq_of_lt (by omega)]
  simp [IntKind.wrap, IntKind.bits, IntKind.signed]
  omega
theorem or_one64 (n : Nat) (hn : n < 4611686018427387904) : Go.bits .or .u64 ((n : Int) * 2) 1 = ((2 * n + 1 : Nat) : Int) := by
  have e : (2 * n ||| 1 : Nat) = 2 * n + 1 := by
    have := Nat.two_pow_add_eq_or_of_lt (i := 1) (b := 1) (by decide) n
    simpa using this.symm
  show IntKind.u64.wrap ((BitVec.ofInt 64 ((n : Int) * 2) ||| BitVec.ofInt 64 1).toNat : Int) = _
  rw [show (n : Int) * 2 = ((2 * n : Nat) : Int) by omega, show (1 : Int) = ((1 : Nat) : Int) from rfl, BitVec.ofInt_natCast, BitVec.ofInt_natCast, BitVec.toNat_or, BitVec.toNat_ofNat, BitVec.toNat_ofNat, Nat.mod_eq_of_lt (by omega), Nat.mod_eq_of_lt (by decide), e]
  simp [IntKind.wrap, IntKind.bits, IntKind.signed]
  omega

set_option maxHeartbeats 2000000 in
theorem wnumber_ok (w : World) (base g : Nat) (v : Value) (bs : List Nat) (n : Nat) (hs : WS w base g v bs) (hn : n < 4294967296) (hl : bs.length + (numB n).length ≤ 10000000000) :
    Calls Tryz.prog 156 #[.pointer (some ⟨g, 0, none⟩), .int .i64 n] w (RetWr w base g v (bs ++ numB n)) := by
  have hc := wnat_ok w base g v bs (2 * n) hs (by omega) hl
  have hxor := xor_zero64 (a := (n : Int) * 2) (b := (n : Int) / 9223372036854775808) (by omega) (by omega) (by omega)
  rw [show ((2 * n : Nat) : Int) = (n : Int) * 2 by omega] at hc
  have HC := Lib.hid hc
  clear hc hl hs
  go_enter Tryz.func156, Tryz.ntmps156
  go_wp2_with fail
  refine HC.out.mono ?_; rintro e w' ⟨v', rfl, hres⟩
  go_wp2_with fail
  go_end0
  exact ⟨v', rfl, hres⟩

theorem elts_b4 {w : World} {ex : List Nat} (x : Nat) (hx : x < 4294967296) : Elts byE w ex (b4 x) [.int .u8 ((x : Int) / 16777216), .int .u8 ((x : Int) / 65536 % 256), .int .u8 ((x : Int) / 256 % 256), .int .u8 ((x : Int) % 256)] := by
  have : x / 16777216 % 256 = x / 16777216 := by omega
  simp [Elts, b4, byE, this]
theorem row_b4 {w : World} {ex : List Nat} {t : TypeId} {vs : List Value} {b : Nat} (hb : b = w.heap.size) (hx : b ∉ ex) : Row (w.alloc (.cells vs.toArray t)) ex (some ⟨b, 0, none⟩) vs :=
  fun _ => ⟨b, 0, rfl, hx, fun i u hu => by rw [Nat.zero_add]; exact cell_new w t vs b hb i u hu⟩

theorem wholeB_len (z : Int) : 4 * (digits z.natAbs).length ≤ (wholeB z).length := by
  unfold wholeB
  rw [List.length_append, List.length_flatMap, show (List.map (fun a => (b4 a).length) (digits z.natAbs)).sum = 4 * (digits z.natAbs).length from by
    generalize digits z.natAbs = l
    induction l with
    | nil => rfl
    | cons x r ih => simp [b4] at ih ⊢; omega]
  omega

set_option maxHeartbeats 4000000 in
theorem wwhole_ok (w : World) (base g : Nat) (v : Value) (bs : List Nat) (ex : List Nat) (s : Bool) (A : Option Addr) (n c : Nat) (z : Int) (hs : WS w base g v bs) (hx : RI w ([g] ++ (own v ++ ex)) s A n c z) (hl : bs.length + (wholeB z).length ≤ 10000000000) :
    Calls Tryz.prog 241 #[.pointer (some ⟨g, 0, none⟩), .agg #[.bool s, .slice A n c]] w (RetWr w base g v (bs ++ wholeB z)) := by
  have hlen := hx.2.len
  have hn : n ≤ 2500000000 := by have := wholeB_len z; omega
  have hor := or_one64 n (by omega)
  have hz := hx.1
  obtain ⟨h0, hh0⟩ : ∃ x : Nat, x = 2 * n + if z < 0 then 1 else 0 := ⟨_, rfl⟩
  have hW : wholeB z = natB h0 ++ (digits z.natAbs).flatMap b4 := by rw [hh0, hlen]; rfl
  generalize hds : digits z.natAbs = ds at *
  have HW := Lib.hid hW
  have HLn := Lib.hid hlen
  have hl2 : bs.length + (natB h0).length + (ds.flatMap b4).length ≤ 10000000000 := by rw [hW, List.length_append] at hl; omega
  have hc := wnat_ok (w.alloc (.cells #[.bool s, .slice A n c] 57)) base g v bs h0 (hs.keep (by repeat first | with_reducible exact .refl .. | with_reducible assumption | refine .s ?_ ?_ | refine .m ?_ ?_ | refine .l ?_ ?_ | refine .d ?_ | refine .e ?_ | (simp <;> omega) | omega)) (by rw [hh0]; split <;> omega) (by omega)
  have HC := Lib.hid hc
  have HS := Lib.hid hs
  have HX := Lib.hid hx
  have HL := Lib.hid hl2
  have HDS := Lib.hid hds
  clear hs hx hl hl2 hc hW hlen hds
  go_enter Tryz.func241, Tryz.ntmps241
  have hn0 : (h0 : Int) = if s then (n : Int) * 2 + 1 else (n : Int) * 2 := by
    rw [hh0, hz]; by_cases hz0 : z < 0 <;> simp [hz0] <;> omega
  clear hh0 hz
  have HFar := Lib.hid (HS.out.far (Nat.le_refl _))
  cases s
  case' false => have hn0' : (n : Int) * 2 = (h0 : Int) := by simpa using hn0.symm
  case' true => have hn0' : Go.bits .or .u64 ((n : Int) * 2) 1 = (h0 : Int) := by rw [hor]; push_cast; simp at hn0; omega
  all_goals
    clear hn0 hor
    go_wp2_with fail
    refine HC.out.mono ?_; rintro e w1 ⟨v1, rfl, hw1, hk1, hb1⟩
    have c1 : w1.cell? ⟨w.heap.size, 1, none⟩ = some (.slice A n c) := ((hk1 []).cell (b := w.heap.size) (by simp) HFar.out 1).trans (by simp [go_sem, ↓IntWalk.iteOmega])
    go_wp2_with fail
    clear c1
    have hkw : ∀ ex, Kr w ([g] ++ (own v ++ ex)) w1 ([g] ++ (own v1 ++ ex)) := fun ex => (Kr.of_below (by repeat first | with_reducible exact .refl .. | with_reducible assumption | refine .s ?_ ?_ | refine .m ?_ ?_ | refine .l ?_ ?_ | refine .d ?_ | refine .e ?_ | (simp <;> omega) | omega) _).trans (hk1 ex)
    have hbw : Below g w w1 := Below.trans (show Below g w (w.alloc (.cells #[.bool _, .slice A n c] 57)) from (show Below w.heap.size w _ from (by repeat first | with_reducible exact .refl .. | with_reducible assumption | refine .s ?_ ?_ | refine .m ?_ ?_ | refine .l ?_ ?_ | refine .d ?_ | refine .e ?_ | (simp <;> omega) | omega)).mono (Nat.le_of_lt HS.out.glt)) hb1
    generalize hB1 : bs ++ natB h0 = B1 at *
    have HB1 := Lib.hid hB1
    clear hB1 hk1 hb1
    go_loopw [22] (fun i wr => ∃ (k : Nat) (v' : Value), k ≤ n ∧ i = .int .i64 k ∧ WS wr base g v' (B1 ++ (ds.take k).flatMap b4) ∧ (∀ ex, Kr w ([g] ++ (own v ++ ex)) wr ([g] ++ (own v' ++ ex))) ∧ Below g w wr) (fun i _ => n - (intOf i).toNat)
    case atStart => exact ⟨0, v1, Nat.zero_le _, rfl, by simpa using hw1, hkw, hbw⟩
    case round =>
      obtain ⟨k, v', hk, rfl, hw, hkr, hb⟩ := hrel
      have m0 := hw.cell
      have m1 := hw.froz
      generalize hL : B1 ++ (ds.take k).flatMap b4 = L at *
      have HLL := Lib.hid hL; clear hL
      obtain ⟨A', c', rfl, hc'⟩ := hw.mine.form rfl
      by_cases hlt : k < n
      · have hxw := (HX.out.mono (hkr ex)).2
        rw [HDS.out] at hxw
        have hkl : k < ds.length := by rw [← HLn.out]; exact hlt
        obtain ⟨b, o, rfl, hbx, hcs⟩ := hxw.at_ (by omega)
        have hcell := hcs k hkl
        have hxb := hxw.wd _ (List.getElem_mem hkl)
        have HT := Lib.hid (show B1 ++ (ds.take (k + 1)).flatMap b4 = L ++ b4 ds[k] by
          rw [List.take_succ_eq_append_getElem hkl, List.flatMap_append, ← List.append_assoc, HLL.out]; simp)
        have hLl : L.length ≤ 10000000000 := by
          have h1 := HL.out
          have h2 := congrArg List.length HLL.out
          have h3 := congrArg List.length HB1.out
          rw [List.length_append] at h2 h3
          have h4 : ((ds.take k).flatMap b4).length ≤ (ds.flatMap b4).length := by
            conv => rhs; rw [← List.take_append_drop k ds, List.flatMap_append, List.length_append]
            exact Nat.le_add_right _ _
          omega
        obtain ⟨x, hx⟩ : ∃ x, ds[k] = x := ⟨_, rfl⟩
        rw [hx] at hcell hxb HT
        clear hxw hcs hx
        have hi1 : (k : Int) < (n : Int) := by omega
        go_wp2_with (at_builtin; go_loud (refine wpList_append_elts2 byE _ rfl _ _ 35 rfl Tryz.underlying35 base [] (.slice A' L.length c') L rfl (hw.mine.keep (by repeat first | with_reducible exact .refl .. | with_reducible assumption | refine .s ?_ ?_ | refine .m ?_ ?_ | refine .l ?_ ?_ | refine .d ?_ | refine .e ?_ | (simp <;> omega) | omega)) _ 4 _ (b4 x) rfl rfl _ (row_b4 (by simp) (by intro hh; rw [List.append_nil] at hh; have := (hw.mine.le _ hh).2; omega)) (elts_b4 x hxb) (by omega) (by have := hw.le; simp; omega) ?_; intro v2 w2 ho2 hk2 hbl1 hbl2; obtain ⟨A2, c2, rfl, hc2⟩ := ho2.form (k := L.length + 4) (by simp [b4]); have hmid := hw.mid (show Below wr.heap.size wr _ from (by repeat first | with_reducible exact .refl .. | with_reducible assumption | refine .s ?_ ?_ | refine .m ?_ ?_ | refine .l ?_ ?_ | refine .d ?_ | refine .e ?_ | (simp <;> omega) | omega)) hk2; have hst := hw.step (show Below wr.heap.size wr _ from (by repeat first | with_reducible exact .refl .. | with_reducible assumption | refine .s ?_ ?_ | refine .m ?_ ?_ | refine .l ?_ ?_ | refine .d ?_ | refine .e ?_ | (simp <;> omega) | omega)) hk2 ho2 hbl2; have m0 := hmid.1; have m1 := hmid.2; clear hmid))
        go_wp2_with fail
        go_roundw
        case rel =>
          exact ⟨k + 1, _, by omega, by go_num, by rw [HT.out]; exact hst.1, fun ex => (hkr ex).trans (hst.2.1 ex), hb.trans hst.2.2⟩
        case measure => simp [intOf]; omega
      · obtain rfl : k = n := by omega
        go_wp2_with fail
        go_end0
        refine ⟨_, rfl, ?_, hkr, hb⟩
        rw [HW.out, ← List.append_assoc, HB1.out, ← List.take_of_length_le (l := ds) (show ds.length ≤ k by rw [← HLn.out]; exact Nat.le_refl _), HLL.out]
        exact hw

set_option maxHeartbeats 2000000 in
theorem wrational_ok (w : World) (base g : Nat) (v : Value) (bs : List Nat) (ex : List Nat) (s1 : Bool) (A1 : Option Addr) (n1 c1 : Nat) (s2 : Bool) (A2 : Option Addr) (n2 c2 : Nat) (q : Rat) (hs : WS w base g v bs) (hx : RQ w ([g] ++ (own v ++ ex)) s1 A1 n1 c1 s2 A2 n2 c2 q) (hl : bs.length + (ratB q).length ≤ 10000000000) :
    Calls Tryz.prog 227 #[.pointer (some ⟨g, 0, none⟩), .agg #[.bool s1, .slice A1 n1 c1, .bool s2, .slice A2 n2 c2]] w (RetWr w base g v (bs ++ ratB q)) := by
  have HS := Lib.hid hs
  have HFar := Lib.hid (hs.far (Nat.le_refl _))
  have HX := Lib.hid hx
  have HL := Lib.hid (show bs.length + (wholeB q.num).length + (wholeB (q.den : Int)).length ≤ 10000000000 by unfold ratB at hl; rw [List.length_append] at hl; omega)
  clear hs hx hl
  go_enter Tryz.func227, Tryz.ntmps227
  go_wp2_with fail
  refine (wwhole_ok _ base g v bs ex s1 A1 n1 c1 q.num (HS.out.keep (by repeat first | with_reducible exact .refl .. | with_reducible assumption | refine .s ?_ ?_ | refine .m ?_ ?_ | refine .l ?_ ?_ | refine .d ?_ | refine .e ?_ | (simp <;> omega) | omega)) (HX.out.1.mono (Kr.of_below (by repeat first | with_reducible exact .refl .. | with_reducible assumption | refine .s ?_ ?_ | refine .m ?_ ?_ | refine .l ?_ ?_ | refine .d ?_ | refine .e ?_ | (simp <;> omega) | omega) _)) (by have := HL.out; omega)).mono ?_; rintro e w1 ⟨v1, rfl, hw1, hk1, hb1⟩
  have d0 : w1.cell? ⟨w.heap.size, 2, none⟩ = some (.bool s2) := ((hk1 []).cell (b := w.heap.size) (by simp) HFar.out 2).trans (by simp [go_sem, ↓IntWalk.iteOmega])
  have d1 : w1.cell? ⟨w.heap.size, 3, none⟩ = some (.slice A2 n2 c2) := ((hk1 []).cell (b := w.heap.size) (by simp) HFar.out 3).trans (by simp [go_sem, ↓IntWalk.iteOmega])
  go_wp2_with fail
  refine (wwhole_ok _ base g v1 (bs ++ wholeB q.num) ex s2 A2 n2 c2 (q.den : Int) hw1 (HX.out.den.mono ((Kr.of_below (by repeat first | with_reducible exact .refl .. | with_reducible assumption | refine .s ?_ ?_ | refine .m ?_ ?_ | refine .l ?_ ?_ | refine .d ?_ | refine .e ?_ | (simp <;> omega) | omega) _).trans (hk1 ex))) (by have := HL.out; rw [List.length_append]; omega)).mono ?_; rintro e w2 ⟨v2, rfl, hw2, hk2, hb2⟩
  go_wp2_with fail
  go_end0
  refine ⟨v2, rfl, by unfold ratB; rw [← List.append_assoc]; exact hw2, fun ex' => ((Kr.of_below (by repeat first | with_reducible exact .refl .. | with_reducible assumption | refine .s ?_ ?_ | refine .m ?_ ?_ | refine .l ?_ ?_ | refine .d ?_ | refine .e ?_ | (simp <;> omega) | omega) _).trans (hk1 ex')).trans (hk2 ex'), ?_⟩
  exact ((show Below w.heap.size w _ from (by repeat first | with_reducible exact .refl .. | with_reducible assumption | refine .s ?_ ?_ | refine .m ?_ ?_ | refine .l ?_ ?_ | refine .d ?_ | refine .e ?_ | (simp <;> omega) | omega)).mono (Nat.le_of_lt HS.out.glt)).trans (hb1.trans hb2)

end Go.Proofs.YthhdleppkggepaaGreat

/-
  The bytes that the reference of package claim writes: Nat, Number.
-/
namespace Go.Proofs.YthhdleppkggepaaGreat
open Go.RowKit Go.Deep
set_option maxRecDepth 100000

/-- A call that appends to a slice of bytes of its own. -/
def RetAp (w : World) (base : Nat) (v : Value) (bs : List Nat) (e : Ending) (w' : World) : Prop :=
  ∃ v', e = .returned v' ∧ OwnL byE w' base [] v' bs ∧ (∀ ex, Kr w (own v ++ ex) w' (own v' ++ ex)) ∧ Below base w w' ∧ base ≤ w'.heap.size
theorem high_bit (m : Nat) : m % 256 ||| 128 = m % 128 + 128 := by
  have h1 := or_bit (s := m % 128) (k := 7) (by omega)
  rw [show (2 ^ 7 : Nat) = 128 from rfl] at h1
  by_cases h : m % 256 < 128
  · rw [show m % 256 = m % 128 by omega, h1]
  · have e : m % 256 = m % 128 ||| 128 := by rw [h1]; omega
    rw [e, Nat.or_assoc, Nat.or_self, h1]

set_option maxHeartbeats 4000000 in
theorem rnat_ok (w : World) (base : Nat) (v : Value) (bs : List Nat) (n : Nat) (hs : OwnL byE w base [] v bs) (hbase : base ≤ w.heap.size) (hn : n < 18446744073709551616) (hl : bs.length + (natB n).length ≤ 10000000000) :
    Calls Tryz.prog 159 #[v, .int .u64 n] w (RetAp w base v (bs ++ natB n)) := by
  have HL := Lib.hid hl
  clear hl
  go_enter Tryz.func159, Tryz.ntmps159
  go_wp2_with fail
  go_loopw [0, 1] (fun v' x wr => ∃ (m : Nat) (L : List Nat), x = .int .u64 m ∧ m < 18446744073709551616 ∧ OwnL byE wr base [] v' L ∧ L ++ natB m = bs ++ natB n ∧ (∀ ex, Kr w (own v ++ ex) wr (own v' ++ ex)) ∧ Below base w wr ∧ base ≤ wr.heap.size) (fun _ x _ => (intOf x).toNat)
  case atStart => exact ⟨n, bs, rfl, hn, hs, rfl, fun _ => Kr.refl _ _, Below.refl _ _, hbase⟩
  case round =>
    rename_i v'
    obtain ⟨m, L, rfl, hm, hw, he, hk, hb, hbs⟩ := hrel
    have hlen : L.length < 100000000000 := by
      have := HL.out; have h2 := congrArg List.length he; rw [List.length_append, List.length_append] at h2; omega
    by_cases hlt : m < 128
    · have hlt' : ¬ (127 : Int) < (m : Int) := by omega
      go_wp2_with (at_builtin; go_loud (refine wpList_append_elt2 byE _ rfl _ _ 35 rfl Tryz.underlying35 base [] _ L rfl (hw.keep (by repeat first | with_reducible exact .refl .. | with_reducible assumption | refine .s ?_ ?_ | refine .m ?_ ?_ | refine .l ?_ ?_ | refine .d ?_ | refine .e ?_ | (simp <;> omega) | omega)) _ _ rfl m [.int .u8 m] (cell_new _ _ _ _ (by simp)) (by intro hh; rw [List.append_nil] at hh; have := (hw.le _ hh).2; omega) rfl hlen (by simp; omega) ?_; intro v2 w2 ho2 hk2 hbl1 hbl2; have hbb := hbl2 _ _ ((show Below wr.heap.size wr _ from (by repeat first | with_reducible exact .refl .. | with_reducible assumption | refine .s ?_ ?_ | refine .m ?_ ?_ | refine .l ?_ ?_ | refine .d ?_ | refine .e ?_ | (simp <;> omega) | omega)).mono hbs) (Nat.le_refl _); have hsz2 := (hk2 []).size))
      go_wp2_with fail
      go_ret
      have e1 : L ++ [m] = bs ++ natB n := by rw [← he, natB_small hlt]
      rw [e1] at ho2
      exact ⟨_, rfl, ho2, fun ex => ((hk ex).trans (Kr.of_below (by repeat first | with_reducible exact .refl .. | with_reducible assumption | refine .s ?_ ?_ | refine .m ?_ ?_ | refine .l ?_ ?_ | refine .d ?_ | refine .e ?_ | (simp <;> omega) | omega) _)).trans (hk2 ex), hb.trans hbb, by simp at hsz2; omega⟩
    · have hlt' : (127 : Int) < (m : Int) := by omega
      have hy := high_bit m
      go_wp2_with (at_builtin; go_loud (refine wpList_append_elt2 byE _ rfl _ _ 35 rfl Tryz.underlying35 base [] _ L rfl (hw.keep (by repeat first | with_reducible exact .refl .. | with_reducible assumption | refine .s ?_ ?_ | refine .m ?_ ?_ | refine .l ?_ ?_ | refine .d ?_ | refine .e ?_ | (simp <;> omega) | omega)) _ _ rfl (m % 128 + 128) [.int .u8 ((m : Int) % 128 + 128)] (cell_new _ _ _ _ (by simp)) (by intro hh; rw [List.append_nil] at hh; have := (hw.le _ hh).2; omega) (by show _ = _; simp) hlen (by simp; omega) ?_; intro v2 w2 ho2 hk2 hbl1 hbl2; have hbb := hbl2 _ _ ((show Below wr.heap.size wr _ from (by repeat first | with_reducible exact .refl .. | with_reducible assumption | refine .s ?_ ?_ | refine .m ?_ ?_ | refine .l ?_ ?_ | refine .d ?_ | refine .e ?_ | (simp <;> omega) | omega)).mono hbs) (Nat.le_refl _); have hsz2 := (hk2 []).size))
      go_wp2_with fail
      go_roundw
      case rel =>
        refine ⟨m / 128, L ++ [m % 128 + 128], by go_num, by omega, ho2, ?_, fun ex => ((hk ex).trans (Kr.of_below (by repeat first | with_reducible exact .refl .. | with_reducible assumption | refine .s ?_ ?_ | refine .m ?_ ?_ | refine .l ?_ ?_ | refine .d ?_ | refine .e ?_ | (simp <;> omega) | omega) _)).trans (hk2 ex), hb.trans hbb, by simp at hsz2; omega⟩
        rw [← he, natB_big hlt, hy]; simp
      case measure => simp [intOf]; omega

set_option maxHeartbeats 2000000 in
theorem rnumber_ok (w : World) (base : Nat) (v : Value) (bs : List Nat) (n : Nat) (hs : OwnL byE w base [] v bs) (hbase : base ≤ w.heap.size) (hn : n < 4294967296) (hl : bs.length + (numB n).length ≤ 10000000000) :
    Calls Tryz.prog 109 #[v, .int .i64 n] w (RetAp w base v (bs ++ numB n)) := by
  have hc := rnat_ok w base v bs (2 * n) hs hbase (by omega) hl
  rw [show ((2 * n : Nat) : Int) = (n : Int) * 2 by omega] at hc
  have HC := Lib.hid hc
  clear hc hl hs
  go_enter Tryz.func109, Tryz.ntmps109
  go_wp2_with fail
  refine HC.out.mono ?_; rintro e w' ⟨v', rfl, hres⟩
  go_wp2_with fail
  go_ret
  exact ⟨v', rfl, hres⟩

end Go.Proofs.YthhdleppkggepaaGreat

/-
  The bytes that the reference of package claim writes: Whole, Rational.
-/
namespace Go.Proofs.YthhdleppkggepaaGreat
open Go.RowKit Go.Deep
set_option maxRecDepth 100000

theorem own_far {w : World} {base : Nat} {v : Value} {bs : List Nat} (h : OwnL byE w base [] v bs) {b : Nat} (hb : w.heap.size ≤ b) : b ∉ own v ++ ([] : List Nat) := by
  intro hh
  rw [List.append_nil] at hh; have := (h.le b hh).2; omega

set_option maxHeartbeats 4000000 in
theorem rwhole_ok (w : World) (base : Nat) (v : Value) (bs : List Nat) (ex : List Nat) (s : Bool) (A : Option Addr) (n c : Nat) (z : Int) (hs : OwnL byE w base [] v bs) (hbase : base ≤ w.heap.size) (hx : RI w (own v ++ ex) s A n c z) (hl : bs.length + (wholeB z).length ≤ 10000000000) :
    Calls Tryz.prog 228 #[v, .agg #[.bool s, .slice A n c]] w (RetAp w base v (bs ++ wholeB z)) := by
  have hlen := hx.2.len
  have hn : n ≤ 2500000000 := by have := wholeB_len z; omega
  have hz := hx.1
  obtain ⟨h0, hh0⟩ : ∃ x : Nat, x = 2 * n + if z < 0 then 1 else 0 := ⟨_, rfl⟩
  have hW : wholeB z = natB h0 ++ (digits z.natAbs).flatMap b4 := by rw [hh0, hlen]; rfl
  generalize hds : digits z.natAbs = ds at *
  have HW := Lib.hid hW
  have HLn := Lib.hid hlen
  have hl2 : bs.length + (natB h0).length + (ds.flatMap b4).length ≤ 10000000000 := by rw [hW, List.length_append] at hl; omega
  have hc := rnat_ok (w.alloc (.cells #[.bool s, .slice A n c] 57)) base v bs h0 (hs.keep (by repeat first | with_reducible exact .refl .. | with_reducible assumption | refine .s ?_ ?_ | refine .m ?_ ?_ | refine .l ?_ ?_ | refine .d ?_ | refine .e ?_ | (simp <;> omega) | omega)) (by simp; omega) (by rw [hh0]; split <;> omega) (by omega)
  have HC := Lib.hid hc
  have HX := Lib.hid hx
  have HL := Lib.hid hl2
  have HDS := Lib.hid hds
  have HFar := Lib.hid (own_far hs (Nat.le_refl _))
  clear hs hx hl hl2 hc hW hlen hds
  go_enter Tryz.func228, Tryz.ntmps228
  have hn0 : (h0 : Int) = if s then (n : Int) * 2 + 1 else (n : Int) * 2 := by
    rw [hh0, hz]; by_cases hz0 : z < 0 <;> simp [hz0] <;> omega
  clear hh0 hz
  cases s
  case' false => have hn0' : (n : Int) * 2 = (h0 : Int) := by simpa using hn0.symm
  case' true => have hn0' : (n : Int) * 2 + 1 = (h0 : Int) := by simpa using hn0.symm
  all_goals
    clear hn0
    go_wp2_with fail
    refine HC.out.mono ?_; rintro e w1 ⟨v1, rfl, hw1, hk1, hb1, hbs1⟩
    have c1 : w1.cell? ⟨w.heap.size, 1, none⟩ = some (.slice A n c) := ((hk1 []).cell (b := w.heap.size) (by simp) HFar.out 1).trans (by simp [go_sem, ↓IntWalk.iteOmega])
    have hsz1 : w.heap.size + 1 ≤ w1.heap.size := by have := (hk1 []).size; simpa using this
    have hfar1 : w.heap.size ∉ own v1 ++ ([] : List Nat) := (hk1 []).out w.heap.size (by simp) HFar.out
    go_wp2_with fail
    have hkw : ∀ ex, Kr w (own v ++ ex) w1 (own v1 ++ ex) := fun ex => (Kr.of_below (by repeat first | with_reducible exact .refl .. | with_reducible assumption | refine .s ?_ ?_ | refine .m ?_ ?_ | refine .l ?_ ?_ | refine .d ?_ | refine .e ?_ | (simp <;> omega) | omega) _).trans (hk1 ex)
    have hbw : Below base w w1 := Below.trans (show Below base w (w.alloc (.cells #[.bool _, .slice A n c] 57)) from (show Below w.heap.size w _ from (by repeat first | with_reducible exact .refl .. | with_reducible assumption | refine .s ?_ ?_ | refine .m ?_ ?_ | refine .l ?_ ?_ | refine .d ?_ | refine .e ?_ | (simp <;> omega) | omega)).mono hbase) hb1
    generalize hB1 : bs ++ natB h0 = B1 at *
    have HB1 := Lib.hid hB1
    clear hB1 hb1 hk1
    go_loopw [0, 6] (fun v' i wr => ∃ (k : Nat), k ≤ n ∧ i = .int .i64 k ∧ OwnL byE wr base [] v' (B1 ++ (ds.take k).flatMap b4) ∧ (∀ ex, Kr w1 (own v1 ++ ex) wr (own v' ++ ex)) ∧ Below base w wr ∧ base ≤ wr.heap.size) (fun _ i _ => n - (intOf i).toNat)
    case atStart => exact ⟨0, Nat.zero_le _, rfl, by simpa using hw1, fun _ => Kr.refl _ _, hbw, hbs1⟩
    case round =>
      rename_i v'
      obtain ⟨k, hk, rfl, hw, hkr, hb, hbs⟩ := hrel
      have d1 : wr.cell? ⟨w.heap.size, 1, none⟩ = some (.slice A n c) := ((hkr []).cell (b := w.heap.size) (by omega) hfar1 1).trans c1
      generalize hL : B1 ++ (ds.take k).flatMap b4 = L at *
      have HLL := Lib.hid hL; clear hL
      by_cases hlt : k < n
      · have hxw := (HX.out.mono ((hkw ex).trans (hkr ex))).2
        rw [HDS.out] at hxw
        have hkl : k < ds.length := by rw [← HLn.out]; exact hlt
        obtain ⟨b, o, rfl, hbx, hcs⟩ := hxw.at_ (by omega)
        have hcell := hcs k hkl
        have hxb := hxw.wd _ (List.getElem_mem hkl)
        have HT := Lib.hid (show B1 ++ (ds.take (k + 1)).flatMap b4 = L ++ b4 ds[k] by
          rw [List.take_succ_eq_append_getElem hkl, List.flatMap_append, ← List.append_assoc, HLL.out]; simp)
        have hLl : L.length ≤ 10000000000 := by
          have h1 := HL.out
          have h2 := congrArg List.length HLL.out
          have h3 := congrArg List.length HB1.out
          rw [List.length_append] at h2 h3
          have h4 : ((ds.take k).flatMap b4).length ≤ (ds.flatMap b4).length := by
            conv => rhs; rw [← List.take_append_drop k ds, List.flatMap_append, List.length_append]
            exact Nat.le_add_right _ _
          omega
        obtain ⟨x, hx⟩ : ∃ x, ds[k] = x := ⟨_, rfl⟩
        rw [hx] at hcell hxb HT
        clear hxw hcs hx c1
        have hi1 : (k : Int) < (n : Int) := by omega
        go_wp2_with (at_builtin; go_loud (refine wpList_append_elts2 byE _ rfl _ _ 35 rfl Tryz.underlying35 base [] _ L rfl (hw.keep (by repeat first | with_reducible exact .refl .. | with_reducible assumption | refine .s ?_ ?_ | refine .m ?_ ?_ | refine .l ?_ ?_ | refine .d ?_ | refine .e ?_ | (simp <;> omega) | omega)) _ 4 _ (b4 x) rfl rfl _ (row_b4 (by simp) (by intro hh; rw [List.append_nil] at hh; have := (hw.le _ hh).2; omega)) (elts_b4 x hxb) (by omega) (by simp; omega) ?_; intro v2 w2 ho2 hk2 hbl1 hbl2; have hbb := hbl2 _ _ ((show Below wr.heap.size wr _ from (by repeat first | with_reducible exact .refl .. | with_reducible assumption | refine .s ?_ ?_ | refine .m ?_ ?_ | refine .l ?_ ?_ | refine .d ?_ | refine .e ?_ | (simp <;> omega) | omega)).mono hbs) (Nat.le_refl _); have hsz2 := (hk2 []).size))
        go_wp2_with fail
        go_roundw
        case rel =>
          exact ⟨k + 1, by omega, by go_num, by rw [HT.out]; exact ho2, fun ex => ((hkr ex).trans (Kr.of_below (by repeat first | with_reducible exact .refl .. | with_reducible assumption | refine .s ?_ ?_ | refine .m ?_ ?_ | refine .l ?_ ?_ | refine .d ?_ | refine .e ?_ | (simp <;> omega) | omega) _)).trans (hk2 ex), hb.trans hbb, by simp at hsz2; omega⟩
        case measure => simp [intOf]; omega
      · obtain rfl : k = n := by omega
        clear c1
        go_wp2_with fail
        go_ret
        refine ⟨_, rfl, ?_, fun ex => (hkw ex).trans (hkr ex), hb, hbs⟩
        rw [HW.out, ← List.append_assoc, HB1.out, ← List.take_of_length_le (l := ds) (show ds.length ≤ k by rw [← HLn.out]; exact Nat.le_refl _), HLL.out]
        exact hw

end Go.Proofs.YthhdleppkggepaaGreat

/-
  The bytes that the reference of package claim writes: Rational.
-/
namespace Go.Proofs.YthhdleppkggepaaGreat
open Go.RowKit Go.Deep
set_option maxRecDepth 100000

set_option maxHeartbeats 4000000 in
theorem rrational_ok (w : World) (base : Nat) (v : Value) (bs : List Nat) (ex : List Nat) (s1 : Bool) (A1 : Option Addr) (n1 c1 : Nat) (s2 : Bool) (A2 : Option Addr) (n2 c2 : Nat) (q : Rat) (hs : OwnL byE w base [] v bs) (hbase : base ≤ w.heap.size) (hx : RQ w (own v ++ ex) s1 A1 n1 c1 s2 A2 n2 c2 q) (hl : bs.length + (ratB q).length ≤ 10000000000) :
    Calls Tryz.prog 198 #[v, .agg #[.bool s1, .slice A1 n1 c1, .bool s2, .slice A2 n2 c2]] w (RetAp w base v (bs ++ ratB q)) := by
  have HS := Lib.hid hs
  have HX := Lib.hid hx
  have HL := Lib.hid (show bs.length + (wholeB q.num).length + (wholeB (q.den : Int)).length ≤ 10000000000 by unfold ratB at hl; rw [List.length_append] at hl; omega)
  have HFar := Lib.hid (own_far hs (Nat.le_refl _))
  clear hs hx hl
  go_enter Tryz.func198, Tryz.ntmps198
  go_wp2_with fail
  refine wp_abs (fun W1 => Below w.heap.size w W1 ∧ w.heap.size < W1.heap.size ∧ W1.cell? ⟨w.heap.size, 0, none⟩ = some (.bool s1) ∧ W1.cell? ⟨w.heap.size, 1, none⟩ = some (.slice A1 n1 c1) ∧ W1.cell? ⟨w.heap.size, 2, none⟩ = some (.bool s2) ∧ W1.cell? ⟨w.heap.size, 3, none⟩ = some (.slice A2 n2 c2))
    ⟨(by repeat first | with_reducible exact .refl .. | with_reducible assumption | refine .s ?_ ?_ | refine .m ?_ ?_ | refine .l ?_ ?_ | refine .d ?_ | refine .e ?_ | (simp <;> omega) | omega), by simp, by simp [go_sem, ↓IntWalk.iteOmega], by simp [go_sem, ↓IntWalk.iteOmega], by simp [go_sem, ↓IntWalk.iteOmega], by simp [go_sem, ↓IntWalk.iteOmega]⟩ ?_
  rintro W1 ⟨hB1, hS1, b0, b1, b2, b3⟩
  go_region_held3 (fun w' => w'.cell? ⟨w.heap.size, 0, none⟩ = some (.bool s1) ∧ w'.cell? ⟨w.heap.size, 0 + 1, none⟩ = some (.slice A1 n1 c1) ∧ w'.cell? ⟨w.heap.size, 0 + 2, none⟩ = some (.bool s2) ∧ w'.cell? ⟨w.heap.size, 0 + 3, none⟩ = some (.slice A2 n2 c2))
    ((repeat' apply And.intro) <;> first | (simp [*, go_sem, ↓IntWalk.iteOmega]; done) | (refine got_of ?_; simp [*, go_sem, ↓IntWalk.iteOmega]; done))
    (first | (go_at_call_of 228 A1; refine (rwhole_ok _ base v bs ex s1 A1 n1 c1 q.num (HS.out.keep (by repeat first | with_reducible exact .refl .. | with_reducible assumption | refine .s ?_ ?_ | refine .m ?_ ?_ | refine .l ?_ ?_ | refine .d ?_ | refine .e ?_ | (simp <;> omega) | omega)) (by first | (simp; done) | (simp; omega) | omega) (HX.out.1.mono (Kr.of_below (by repeat first | with_reducible exact .refl .. | with_reducible assumption | refine .s ?_ ?_ | refine .m ?_ ?_ | refine .l ?_ ?_ | refine .d ?_ | refine .e ?_ | (simp <;> omega) | omega) _)) (by have := HL.out; omega)).mono ?_; rintro e w1 ⟨v1, rfl, hw1, hk1, hb1, hbs1⟩; have f1 := fun o => (hk1 []).cell (b := w.heap.size) (by first | (simp; done) | (simp; omega) | omega) HFar.out o; have g1 := (hk1 []).out w.heap.size (by first | (simp; done) | (simp; omega) | omega) HFar.out; have z1 : w.heap.size < w1.heap.size := Nat.lt_of_lt_of_le (by first | (simp; done) | (simp; omega) | omega) (hk1 []).size) | (go_at_call_of 228 A2; refine (rwhole_ok _ base v1 (bs ++ wholeB q.num) ex s2 A2 n2 c2 (q.den : Int) (hw1.keep (by repeat first | with_reducible exact .refl .. | with_reducible assumption | refine .s ?_ ?_ | refine .m ?_ ?_ | refine .l ?_ ?_ | refine .d ?_ | refine .e ?_ | (simp <;> omega) | omega)) (by omega) (HX.out.den.mono (((Kr.of_below (by repeat first | with_reducible exact .refl .. | with_reducible assumption | refine .s ?_ ?_ | refine .m ?_ ?_ | refine .l ?_ ?_ | refine .d ?_ | refine .e ?_ | (simp <;> omega) | omega) _).trans (hk1 ex)).trans (Kr.of_below (by repeat first | with_reducible exact .refl .. | with_reducible assumption | refine .s ?_ ?_ | refine .m ?_ ?_ | refine .l ?_ ?_ | refine .d ?_ | refine .e ?_ | (simp <;> omega) | omega) _))) (by have := HL.out; rw [List.length_append]; omega)).mono ?_; rintro e w2 ⟨v2, rfl, hw2, hk2, hb2, hbs2⟩; have f2 := fun o => (hk2 []).cell (b := w.heap.size) (by first | (simp; done) | (simp; omega) | omega) g1 o))
  all_goals (rename_i hHeldZ; clear hHeldZ)
  all_goals
    go_wp2_with fail
    go_ret
    refine ⟨_, rfl, by unfold ratB; rw [← List.append_assoc]; exact hw2, fun ex' => (((Kr.of_below (by repeat first | with_reducible exact .refl .. | with_reducible assumption | refine .s ?_ ?_ | refine .m ?_ ?_ | refine .l ?_ ?_ | refine .d ?_ | refine .e ?_ | (simp <;> omega) | omega) _).trans (hk1 ex')).trans (Kr.of_below (by repeat first | with_reducible exact .refl .. | with_reducible assumption | refine .s ?_ ?_ | refine .m ?_ ?_ | refine .l ?_ ?_ | refine .d ?_ | refine .e ?_ | (simp <;> omega) | omega) _)).trans (hk2 ex'), ?_, hbs2⟩
    exact ((show Below w.heap.size w _ from (by repeat first | with_reducible exact .refl .. | with_reducible assumption | refine .s ?_ ?_ | refine .m ?_ ?_ | refine .l ?_ ?_ | refine .d ?_ | refine .e ?_ | (simp <;> omega) | omega)).mono hbase).trans (hb1.trans hb2)

end Go.Proofs.YthhdleppkggepaaGreat
