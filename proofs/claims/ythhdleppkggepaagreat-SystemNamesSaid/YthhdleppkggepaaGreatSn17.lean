/-
  Terms as elements of slices.
-/
import Derived.Test.YthhdleppkggepaaGreatSn03
import Derived.Test.YthhdleppkggepaaGreatSn04
import Derived.Test.YthhdleppkggepaaGreatSn08
import Derived.Test.YthhdleppkggepaaGreatSn09
import Derived.Test.YthhdleppkggepaaGreatSn15
import Derived.Test.YthhdleppkggepaaGreatSn16

set_option linter.unusedSimpArgs false
set_option linter.unusedVariables false
set_option linter.unusedSectionVars false

namespace Go.Proofs.YthhdleppkggepaaGreat
open Go.RowKit Go.Deep
set_option maxRecDepth 100000

def tmRd (w : World) (ex : List Nat) (t : Rat × List Int) (vs : List Value) : Prop :=
  ∃ s1 A1 n1 c1 s2 A2 n2 c2 e0 e1 e2 e3 e4 e5 e6 e7, vs = [.bool s1, .slice A1 n1 c1, .bool s2, .slice A2 n2 c2, .int .i64 e0, .int .i64 e1, .int .i64 e2, .int .i64 e3, .int .i64 e4, .int .i64 e5, .int .i64 e6, .int .i64 e7] ∧ RQ w ex s1 A1 n1 c1 s2 A2 n2 c2 t.1 ∧ t.2 = [e0, e1, e2, e3, e4, e5, e6, e7]
theorem infoTerm : (Tryz.prog.info? 118).map (fun i => (i.zero, i.size, i.bytes)) = some (some (.agg #[.bool false, .slice none 0 0, .bool false, .slice none 0 0, .int .i64 0, .int .i64 0, .int .i64 0, .int .i64 0, .int .i64 0, .int .i64 0, .int .i64 0, .int .i64 0]), 12, 128) := by kernel_rfl
def tmE : Elt (Rat × List Int) where
  ty := 118
  size := 12
  bytes := 128
  rd := tmRd
  pos := by decide
  few := by decide
  mono := by
    rintro w w' ex ex' x vs k ⟨s1, A1, n1, c1, s2, A2, n2, c2, e0, e1, e2, e3, e4, e5, e6, e7, rfl, hq, hm⟩
    exact ⟨s1, A1, n1, c1, s2, A2, n2, c2, e0, e1, e2, e3, e4, e5, e6, e7, rfl, hq.mono k, hm⟩
  len := by
    rintro w ex x vs ⟨s1, A1, n1, c1, s2, A2, n2, c2, e0, e1, e2, e3, e4, e5, e6, e7, rfl, hq, hm⟩
    rfl
  one := by
    rintro w ex x vs ⟨s1, A1, n1, c1, s2, A2, n2, c2, e0, e1, e2, e3, e4, e5, e6, e7, rfl, hq, hm⟩ u hu
    simp only [List.mem_cons, List.not_mem_nil, or_false] at hu
    rcases hu with rfl | rfl | rfl | rfl | rfl | rfl | rfl | rfl | rfl | rfl | rfl | rfl <;> rfl
  info := by
    obtain ⟨i, h1, h2, h3, h4⟩ := info_parts infoTerm
    exact ⟨i, _, h1, h2, h3, h4, rfl⟩
theorem RP.of_rl {w : World} {ex : List Nat} {A : Option Addr} {n c : Nat} {p : List (Rat × List Int)} (h : RL tmE w ex A n c p) : RP w ex A n c p := by
  refine ⟨h.len, h.cap, fun h0 => ?_⟩
  obtain ⟨b, o, e, hx, hb, ht⟩ := h.at_ h0
  refine ⟨b, o, e, hx, hb, fun i hi => ?_⟩
  obtain ⟨vs, ⟨s1, A1, n1, c1, s2, A2, n2, c2, e0, e1, e2, e3, e4, e5, e6, e7, rfl, hq, hm⟩, hc⟩ := ht i hi
  exact ⟨s1, A1, n1, c1, s2, A2, n2, c2, e0, e1, e2, e3, e4, e5, e6, e7, hc 0 _ rfl, hc 1 _ rfl, hc 2 _ rfl, hc 3 _ rfl, hc 4 _ rfl, hc 5 _ rfl, hc 6 _ rfl, hc 7 _ rfl, hc 8 _ rfl, hc 9 _ rfl, hc 10 _ rfl, hc 11 _ rfl, hq, hm⟩
theorem RP.rl {w : World} {ex : List Nat} {A : Option Addr} {n c : Nat} {p : List (Rat × List Int)} (h : RP w ex A n c p) : RL tmE w ex A n c p := by
  refine ⟨h.len, h.cap, fun h0 => ?_⟩
  obtain ⟨b, o, e, hx, hb, ht⟩ := h.at_ h0
  refine ⟨b, o, e, hx, hb, fun i hi => ?_⟩
  obtain ⟨s1, A1, n1, c1, s2, A2, n2, c2, e0, e1, e2, e3, e4, e5, e6, e7, h0, h1, h2, h3, h4, h5, h6, h7, h8, h9, h10, h11, hq, hm⟩ := ht i hi
  refine ⟨_, ⟨s1, A1, n1, c1, s2, A2, n2, c2, e0, e1, e2, e3, e4, e5, e6, e7, rfl, hq, hm⟩, fun j u hu => ?_⟩
  match j, hu with
  | 0, hu => cases hu; exact h0
  | 1, hu => cases hu; exact h1
  | 2, hu => cases hu; exact h2
  | 3, hu => cases hu; exact h3
  | 4, hu => cases hu; exact h4
  | 5, hu => cases hu; exact h5
  | 6, hu => cases hu; exact h6
  | 7, hu => cases hu; exact h7
  | 8, hu => cases hu; exact h8
  | 9, hu => cases hu; exact h9
  | 10, hu => cases hu; exact h10
  | 11, hu => cases hu; exact h11
  | j + 12, hu => simp at hu

theorem RQ.avoid {w : World} {ex : List Nat} {s1 : Bool} {A1 : Option Addr} {n1 c1 : Nat} {s2 : Bool} {A2 : Option Addr} {n2 c2 : Nat} {q : Rat} (h : RQ w ex s1 A1 n1 c1 s2 A2 n2 c2 q) {g : Nat} (hg : NoWord w g) : RQ w ([g] ++ ex) s1 A1 n1 c1 s2 A2 n2 c2 q := ⟨h.num.avoid hg, h.den.avoid hg⟩
theorem noWordRat {w : World} {g : Nat} {s1 : Bool} {A1 : Option Addr} {n1 c1 : Nat} {s2 : Bool} {A2 : Option Addr} {n2 c2 : Nat} {t : TypeId} (h : w.heap[g]? = some (.cells #[.bool s1, .slice A1 n1 c1, .bool s2, .slice A2 n2 c2] t (0, 0))) : NoWord w g := NoWord.of h (by
  intro u hu x
  simp only [List.mem_cons, List.not_mem_nil, or_false] at hu
  rcases hu with rfl | rfl | rfl | rfl <;> simp)
/-- A new block's cells. -/
theorem cell_new (w : World) (t : TypeId) (vs : List Value) (b : Nat) (hb : b = w.heap.size) : ∀ j u, vs[j]? = some u → (w.alloc (.cells vs.toArray t)).cell? ⟨b, j, none⟩ = some u := by
  subst hb
  intro j u hu
  rw [World.cell?_alloc_new]
  simpa using hu
/-- A call that returns a polynomial and a number of an error. -/
def RetPE (w : World) (ex : List Nat) (p : List (Rat × List Int)) (z : Int) (e : Ending) (w' : World) : Prop :=
  ∃ A n c X D, e = .returned (.tuple #[.slice A n c, .int .i64 z]) ∧ w' = w.more X D ∧ RP (w.more X D) ex A n c p
theorem RetPE.mk {w w' : World} {ex : List Nat} {p : List (Rat × List Int)} {z : Int} {A : Option Addr} {n c : Nat} {e : Ending} (he : e = .returned (.tuple #[.slice A n c, .int .i64 z])) (hb : Below w.heap.size w w') (hr : RP w' ex A n c p) : RetPE w ex p z e w' := by
  obtain ⟨X, D, rfl⟩ := World.more_of_below hb
  exact ⟨A, n, c, X, D, he, rfl, hr⟩

theorem timesP_take {c : Rat} {m : List Int} {p : List (Rat × List Int)} (hc : c ≠ 0) {k : Nat} (hk : k < p.length) :
    (timesP c m p).take (k + 1) = (timesP c m p).take k ++ [(c * p[k].1, addE m p[k].2)] := by
  unfold timesP
  rw [if_neg hc, List.take_succ_eq_append_getElem (by simpa using hk)]; simp
theorem timesP_all {c : Rat} {m : List Int} {p : List (Rat × List Int)} {k : Nat} (hk : p.length ≤ k) : (timesP c m p).take k = timesP c m p := by
  apply List.take_of_length_le
  unfold timesP
  split
  · simp
  · simpa using hk
theorem timesP_len {c : Rat} {m : List Int} {p : List (Rat × List Int)} (hc : c ≠ 0) : (timesP c m p).length = p.length := by
  unfold timesP
  rw [if_neg hc]; simp
/-- The exponents of a product are in their range. -/
def MulOk (m : List Int) (p : List (Rat × List Int)) : Prop := ∀ t ∈ p, Exps (addE m t.2)

end Go.Proofs.YthhdleppkggepaaGreat

/-
  The bytes that package claim writes: the writer, and nat.
-/
namespace Go.Proofs.YthhdleppkggepaaGreat
open Go.RowKit Go.Deep
set_option maxRecDepth 100000

theorem infoByte : (Tryz.prog.info? 5).map (fun i => (i.zero, i.size, i.bytes)) = some (some (.int .u8 0), 1, 1) := by kernel_rfl
def byE : Elt Nat where
  ty := 5
  size := 1
  bytes := 1
  rd := fun _ _ x vs => vs = [.int .u8 x]
  pos := by decide
  few := by decide
  mono := by
    rintro w w' ex ex' x vs k rfl
    rfl
  len := by
    rintro w ex x vs rfl
    rfl
  one := by
    rintro w ex x vs rfl u hu
    simp only [List.mem_cons, List.not_mem_nil, or_false] at hu
    subst hu; rfl
  info := by
    obtain ⟨i, h1, h2, h3, h4⟩ := info_parts infoByte
    exact ⟨i, _, h1, h2, h3, h4, rfl⟩
/-- A writer: its cell holds a slice of its own, whose bytes are bs. -/
structure WS (w : World) (base g : Nat) (v : Value) (bs : List Nat) : Prop where
  cell : w.cell? ⟨g, 0, none⟩ = some v
  froz : w.frozen? ⟨g, 0, none⟩ = false
  mine : OwnL byE w base [] v bs
  lt : g < base
  le : base ≤ w.heap.size
def RetWr (w : World) (base g : Nat) (v : Value) (bs : List Nat) (e : Ending) (w' : World) : Prop :=
  ∃ v', e = .returned (.tuple #[]) ∧ WS w' base g v' bs ∧ (∀ ex, Kr w ([g] ++ (own v ++ ex)) w' ([g] ++ (own v' ++ ex))) ∧ Below g w w'
theorem byElts {w w' : World} {ex ex' : List Nat} : ∀ {l : List Nat} {cs : List Value}, Elts byE w ex l cs → Elts byE w' ex' l cs
  | [], _, h => h
  | _ :: _, _, ⟨vs, r, e, h1, h2⟩ => ⟨vs, r, e, h1, byElts h2⟩
theorem byOwn {w w' : World} {base : Nat} {ex ex' : List Nat} {v : Value} {l : List Nat} (h : OwnL byE w base ex v l) (hs : ∀ b ∈ own v, w'.heap[b]? = w.heap[b]?) : OwnL byE w' base ex' v l := by
  obtain ⟨cs, h1, h2⟩ := h
  refine ⟨cs, ⟨h1.1, ?_⟩, byElts h2⟩
  rcases h1.2 with h3 | ⟨g, cap, cur, hv, hg, hc, h4⟩
  · exact .inl h3
  · exact .inr ⟨g, cap, cur, hv, hg, by rw [hs g (by simp [hv, own, Value.ownBlock])]; exact hc, h4⟩
theorem WS.out {w : World} {base g : Nat} {v : Value} {bs : List Nat} (h : WS w base g v bs) : g ∉ own v := fun hh => by
  have := (h.mine.le g hh).1; have := h.lt; omega
theorem WS.glt {w : World} {base g : Nat} {v : Value} {bs : List Nat} (h : WS w base g v bs) : g < w.heap.size := Nat.lt_of_lt_of_le h.lt h.le
section
variable {w w1 w2 : World} {base g : Nat} {v v2 : Value} {bs l2 : List Nat}
/-- Behind an append, ahead of the store. -/
theorem WS.mid (h : WS w base g v bs) (hb : Below w.heap.size w w1) (hk : ∀ ex', Kr w1 (own v ++ ex') w2 (own v2 ++ ex')) : w2.cell? ⟨g, 0, none⟩ = some v ∧ w2.frozen? ⟨g, 0, none⟩ = false := by
  have hg := h.glt
  have hg1 : g < w1.heap.size := Nat.lt_of_lt_of_le hg hb.size
  have ho : g ∉ own v ++ [] := by simpa using h.out
  exact ⟨((hk []).cell hg1 ho 0).trans ((hb.at0 hg 0).trans h.cell), ((hk []).froz hg1 ho 0).trans ((hb.frozen hg).trans h.froz)⟩
/-- .. and behind the store. -/
theorem WS.step (h : WS w base g v bs) (hb : Below w.heap.size w w1) (hk : ∀ ex', Kr w1 (own v ++ ex') w2 (own v2 ++ ex')) (ho : OwnL byE w2 base [] v2 l2) (hbl : ∀ (B : Nat) (a : World), Below B a w1 → B ≤ base → Below B a w2) :
    WS (w2.setCell ⟨g, 0, none⟩ v2) base g v2 l2 ∧ (∀ ex, Kr w ([g] ++ (own v ++ ex)) (w2.setCell ⟨g, 0, none⟩ v2) ([g] ++ (own v2 ++ ex))) ∧ Below g w (w2.setCell ⟨g, 0, none⟩ v2) := by
  obtain ⟨hc, hf⟩ := h.mid hb hk
  have hg2 : g < base := h.lt
  have hle2 : base ≤ w2.heap.size := Nat.le_trans (Nat.le_trans h.le hb.size) (hk []).size
  have hout : g ∉ own v2 := fun hh => by have := (ho.le g hh).1; omega
  refine ⟨⟨?_, ?_, ?_, hg2, by simpa using hle2⟩, fun ex => ?_, ?_⟩
  · simp [hc, go_sem, ↓IntWalk.iteOmega]
  · simp [hf, go_sem, ↓IntWalk.iteOmega]
  · exact byOwn ho (fun b hb => Below.heap_setCell _ _ _ _ (fun e => hout (by rw [show g = b from e.symm]; exact hb)))
  · have k1 := Kr.of_below hb ([g] ++ (own v ++ ex))
    have k2 := (hk ([g] ++ ex)).perm (e1 := [g] ++ (own v ++ ex)) (e2 := [g] ++ (own v2 ++ ex)) (by intro b; simp only [List.mem_append]; grind) (by intro b; simp only [List.mem_append]; grind)
    exact (k1.trans k2).trans (Kr.setCell (Kr.refl _ _) _ (by simp))
  · exact (hbl _ _ (hb.mono (Nat.le_of_lt h.glt)) (Nat.le_of_lt hg2)).setCell (Nat.le_refl _) _
end
theorem natB_dec {n : Nat} (h : ¬ n < 128) : n / 128 < n := by omega
/-- A natural number's bytes. -/
def natB (n : Nat) : List Nat := if h : n < 128 then [n] else (n % 256 ||| 128) :: natB (n / 128)
termination_by n
decreasing_by exact natB_dec h
theorem natB_small {n : Nat} (h : n < 128) : natB n = [n] := by rw [natB, dif_pos h]
theorem natB_big {n : Nat} (h : ¬ n < 128) : natB n = (n % 256 ||| 128) :: natB (n / 128) := by rw [natB, dif_neg h]

set_option maxHeartbeats 4000000 in
theorem wnat_ok (w : World) (base g : Nat) (v : Value) (bs : List Nat) (n : Nat) (hs : WS w base g v bs) (hn : n < 18446744073709551616) (hl : bs.length + (natB n).length ≤ 10000000000) :
    Calls Tryz.prog 194 #[.pointer (some ⟨g, 0, none⟩), .int .u64 n] w (RetWr w base g v (bs ++ natB n)) := by
  have HL := Lib.hid hl
  have HS := Lib.hid hs
  clear hl
  go_enter Tryz.func194, Tryz.ntmps194
  go_wp2_with fail
  go_loopw [1] (fun x wr => ∃ (m : Nat) (L : List Nat) (v' : Value), x = .int .u64 m ∧ m < 18446744073709551616 ∧ WS wr base g v' L ∧ L ++ natB m = bs ++ natB n ∧ (∀ ex, Kr w ([g] ++ (own v ++ ex)) wr ([g] ++ (own v' ++ ex))) ∧ Below g w wr) (fun x _ => (intOf x).toNat)
  case atStart => exact ⟨n, bs, v, rfl, hn, hs, rfl, fun _ => Kr.refl _ _, Below.refl _ _⟩
  case round =>
    obtain ⟨m, L, v', rfl, hm, hw, he, hk, hb⟩ := hrel
    have c0 := hw.cell
    have f0 := hw.froz
    by_cases hlt : m < 128
    · have hlt' : ¬ (128 : Int) ≤ (m : Int) := by omega
      have hw8 : IntKind.u8.wrap (m : Int) = (m : Int) := by simp [IntKind.wrap, IntKind.bits, IntKind.signed]; omega
      have hlen : L.length < 100000000000 := by
        have := HL.out; have h2 := congrArg List.length he; rw [List.length_append, List.length_append] at h2; omega
      obtain ⟨A', c', rfl, hc'⟩ := hw.mine.form rfl
      go_wp2_with (at_builtin; go_loud (refine wpList_append_elt2 byE _ rfl _ _ 35 rfl Tryz.underlying35 base [] (.slice A' L.length c') L rfl (hw.mine.keep (by repeat (first | (with_reducible exact Below.refl _ _) | (with_reducible assumption) | refine Below.setCell ?_ (by first | (simp; done) | (simp; omega) | omega) _ | refine Below.more ?_ (by first | (simp; done) | (simp; omega) | omega) _ _ | refine Below.alloc ?_ (by first | (simp; done) | (simp; omega) | omega) _ | refine Below.drew ?_ | refine Below.drewN ?_ _))) _ _ rfl m [.int .u8 m] (cell_new _ _ _ _ (by simp)) (by intro hh; rw [List.append_nil] at hh; have := (hw.mine.le _ hh).2; omega) rfl hlen (by have := hw.le; simp; omega) ?_; intro v2 w2 ho2 hk2 hbl1 hbl2; obtain ⟨A2, c2, rfl, hc2⟩ := ho2.form (k := L.length + 1) (by simp); have hmid := hw.mid (show Below wr.heap.size wr _ from (by repeat (first | (with_reducible exact Below.refl _ _) | (with_reducible assumption) | refine Below.setCell ?_ (by first | (simp; done) | (simp; omega) | omega) _ | refine Below.more ?_ (by first | (simp; done) | (simp; omega) | omega) _ _ | refine Below.alloc ?_ (by first | (simp; done) | (simp; omega) | omega) _ | refine Below.drew ?_ | refine Below.drewN ?_ _))) hk2; have hst := hw.step (show Below wr.heap.size wr _ from (by repeat (first | (with_reducible exact Below.refl _ _) | (with_reducible assumption) | refine Below.setCell ?_ (by first | (simp; done) | (simp; omega) | omega) _ | refine Below.more ?_ (by first | (simp; done) | (simp; omega) | omega) _ _ | refine Below.alloc ?_ (by first | (simp; done) | (simp; omega) | omega) _ | refine Below.drew ?_ | refine Below.drewN ?_ _))) hk2 ho2 hbl2; have m0 := hmid.1; have m1 := hmid.2; clear hmid))
      go_wp2_with fail
      go_end0
      have e1 : L ++ [m] = bs ++ natB n := by rw [← he, natB_small hlt]
      rw [e1] at hst
      exact ⟨_, rfl, hst.1, fun ex => (hk ex).trans (hst.2.1 ex), hb.trans hst.2.2⟩
    · have hlt' : (128 : Int) ≤ (m : Int) := by omega
      have hor := or8_val (m % 256) 128 (by omega) (by omega)
      obtain ⟨y, hy⟩ : ∃ y, y = m % 256 ||| 128 := ⟨_, rfl⟩
      rw [← hy] at hor
      have hor' : Go.bits .or .u8 ((m : Int) % 256) 128 = (y : Int) := by simpa using hor
      clear hor
      have HY := Lib.hid hy; clear hy
      have hlen : L.length < 100000000000 := by
        have := HL.out; have h2 := congrArg List.length he; rw [List.length_append, List.length_append] at h2; omega
      obtain ⟨A', c', rfl, hc'⟩ := hw.mine.form rfl
      go_wp2_with (at_builtin; go_loud (refine wpList_append_elt2 byE _ rfl _ _ 35 rfl Tryz.underlying35 base [] (.slice A' L.length c') L rfl (hw.mine.keep (by repeat (first | (with_reducible exact Below.refl _ _) | (with_reducible assumption) | refine Below.setCell ?_ (by first | (simp; done) | (simp; omega) | omega) _ | refine Below.more ?_ (by first | (simp; done) | (simp; omega) | omega) _ _ | refine Below.alloc ?_ (by first | (simp; done) | (simp; omega) | omega) _ | refine Below.drew ?_ | refine Below.drewN ?_ _))) _ _ rfl y [.int .u8 y] (cell_new _ _ _ _ (by simp)) (by intro hh; rw [List.append_nil] at hh; have := (hw.mine.le _ hh).2; omega) rfl hlen (by have := hw.le; simp; omega) ?_; intro v2 w2 ho2 hk2 hbl1 hbl2; obtain ⟨A2, c2, rfl, hc2⟩ := ho2.form (k := L.length + 1) (by simp); have hmid := hw.mid (show Below wr.heap.size wr _ from (by repeat (first | (with_reducible exact Below.refl _ _) | (with_reducible assumption) | refine Below.setCell ?_ (by first | (simp; done) | (simp; omega) | omega) _ | refine Below.more ?_ (by first | (simp; done) | (simp; omega) | omega) _ _ | refine Below.alloc ?_ (by first | (simp; done) | (simp; omega) | omega) _ | refine Below.drew ?_ | refine Below.drewN ?_ _))) hk2; have hst := hw.step (show Below wr.heap.size wr _ from (by repeat (first | (with_reducible exact Below.refl _ _) | (with_reducible assumption) | refine Below.setCell ?_ (by first | (simp; done) | (simp; omega) | omega) _ | refine Below.more ?_ (by first | (simp; done) | (simp; omega) | omega) _ _ | refine Below.alloc ?_ (by first | (simp; done) | (simp; omega) | omega) _ | refine Below.drew ?_ | refine Below.drewN ?_ _))) hk2 ho2 hbl2; have m0 := hmid.1; have m1 := hmid.2; clear hmid))
      go_wp2_with fail
      go_roundw
      case rel =>
        refine ⟨m / 128, L ++ [y], _, ?_, by omega, hst.1, ?_, fun ex => (hk ex).trans (hst.2.1 ex), hb.trans hst.2.2⟩
        · go_num
        · rw [← he, natB_big hlt, HY.out]; simp
      case measure => simp [intOf]; omega

end Go.Proofs.YthhdleppkggepaaGreat

/-
  The bytes that package claim writes: number, whole, rational.
-/
namespace Go.Proofs.YthhdleppkggepaaGreat
open Go.RowKit Go.Deep
set_option maxRecDepth 100000

/-- A writer after blocks were made. -/
theorem WS.keep {w w' : World} {base g : Nat} {v : Value} {bs : List Nat} (h : WS w base g v bs) (hb : Below w.heap.size w w') : WS w' base g v bs :=
  ⟨(hb.at0 h.glt 0).trans h.cell, (hb.frozen (p := ⟨g, 0, none⟩) h.glt).trans h.froz, h.mine.keep hb, h.lt, Nat.le_trans h.le hb.size⟩
/-- A block that was there keeps its cells. -/
theorem WS.far {w : World} {base g : Nat} {v : Value} {bs : List Nat} (h : WS w base g v bs) {b : Nat} (hb : w.heap.size ≤ b) : b ∉ [g] ++ (own v ++ ([] : List Nat)) := by
  intro hh
  rcases List.mem_append.1 hh with hh | hh
  · have := h.glt; simp at hh; omega
  · rw [List.append_nil] at hh; have := (h.mine.le b hh).2; omega

def numB (n : Nat) : List Nat := natB (2 * n)
def b4 (x : Nat) : List Nat := [x / 16777216 % 256, x / 65536 % 256, x / 256 % 256, x % 256]
def wholeB (z : Int) : List Nat := natB (2 * (digits z.natAbs).length + if z < 0 then 1 else 0) ++ (digits z.natAbs).flatMap b4
def ratB (q : Rat) : List Nat := wholeB q.num ++ wholeB (q.den : Int)

theorem xor_zero64 {a b : Int} (ha0 : 0 ≤ a) (ha : a < 18446744073709551616) (hb : b = 0) : Go.bits .xor .u64 a b = a := by
  subst hb
  obtain ⟨m, rfl⟩ := Int.eq_ofNat_of_zero_le ha0
  show IntKind.u64.wrap ((BitVec.ofInt 64 (m : Int) ^^^ BitVec.ofInt 64 0).toNat : Int) = _
  rw [BitVec.ofInt_natCast, show BitVec.ofInt 64 0 = 0#64 from rfl, BitVec.xor_zero, BitVec.toNat_ofNat, Nat.mod_eq_of_lt (by omega)]
  simp [IntKind.wrap, IntKind.bits, IntKind.signed]
  omega
theorem or_one64 (n : Nat) (hn : n < 4611686018427387904) : Go.bits .or .u64 ((n : Int) * 2) 1 = ((2 * n + 1 : Nat) : Int) := by
  have e : (2 * n ||| 1 : Nat) = 2 * n + 1 := by
    have := Nat.two_pow_add_eq_or_of_lt (i := 1) (b := 1) (by decide) n
    simpa using this.symm
  show IntKind.u64.wrap ((BitVec.ofInt 64 ((n : Int) * 2) ||| BitVec.ofInt 64 1).toNat : Int) = _
  rw [show (n : Int) * 2 = ((2 * n : Nat) : Int) by omega, show (1 : Int) = ((1 : Nat) : Int) from rfl, BitVec.ofInt_natCast, BitVec.ofInt_natCast, BitVec.toNat_or, BitVec.toNat_ofNat, BitVec.toNat_ofNat, Nat.mod_eq_of_lt (by omega), Nat.mod_eq_of_lt (by decide), e]
  simp [IntKind.wrap, IntKind.bits, IntKind.signed]
  omega

set_option maxHeartbeats 2000000 in
theorem wnumber_ok (w : World) (base g : Nat) (v : Value) (bs : List Nat) (n : Nat) (hs : WS w base g v bs) (hn : n < 4294967296) (hl : bs.length + (numB n).length ≤ 10000000000) :
    Calls Tryz.prog 156 #[.pointer (some ⟨g, 0, none⟩), .int .i64 n] w (RetWr w base g v (bs ++ numB n)) := by
  have hc := wnat_ok w base g v bs (2 * n) hs (by omega) hl
  have hxor := xor_zero64 (a := (n : Int) * 2) (b := (n : Int) / 9223372036854775808) (by omega) (by omega) (by omega)
  rw [show ((2 * n : Nat) : Int) = (n : Int) * 2 by omega] at hc
  have HC := Lib.hid hc
  clear hc hl hs
  go_enter Tryz.func156, Tryz.ntmps156
  go_wp2_with fail
  refine HC.out.mono ?_; rintro e w' ⟨v', rfl, hres⟩
  go_wp2_with fail
  go_end0
  exact ⟨v', rfl, hres⟩

theorem elts_b4 {w : World} {ex : List Nat} (x : Nat) (hx : x < 4294967296) : Elts byE w ex (b4 x) [.int .u8 ((x : Int) / 16777216), .int .u8 ((x : Int) / 65536 % 256), .int .u8 ((x : Int) / 256 % 256), .int .u8 ((x : Int) % 256)] := by
  have : x / 16777216 % 256 = x / 16777216 := by omega
  simp [Elts, b4, byE, this]
theorem row_b4 {w : World} {ex : List Nat} {t : TypeId} {vs : List Value} {b : Nat} (hb : b = w.heap.size) (hx : b ∉ ex) : Row (w.alloc (.cells vs.toArray t)) ex (some ⟨b, 0, none⟩) vs :=
  fun _ => ⟨b, 0, rfl, hx, fun i u hu => by rw [Nat.zero_add]; exact cell_new w t vs b hb i u hu⟩

theorem wholeB_len (z : Int) : 4 * (digits z.natAbs).length ≤ (wholeB z).length := by
  unfold wholeB
  rw [List.length_append, List.length_flatMap, show (List.map (fun a => (b4 a).length) (digits z.natAbs)).sum = 4 * (digits z.natAbs).length from by
    generalize digits z.natAbs = l
    induction l with
    | nil => rfl
    | cons x r ih => simp [b4] at ih ⊢; omega]
  omega

set_option maxHeartbeats 4000000 in
theorem wwhole_ok (w : World) (base g : Nat) (v : Value) (bs : List Nat) (ex : List Nat) (s : Bool) (A : Option Addr) (n c : Nat) (z : Int) (hs : WS w base g v bs) (hx : RI w ([g] ++ (own v ++ ex)) s A n c z) (hl : bs.length + (wholeB z).length ≤ 10000000000) :
    Calls Tryz.prog 241 #[.pointer (some ⟨g, 0, none⟩), .agg #[.bool s, .slice A n c]] w (RetWr w base g v (bs ++ wholeB z)) := by
  have hlen := hx.2.len
  have hn : n ≤ 2500000000 := by have := wholeB_len z; omega
  have hor := or_one64 n (by omega)
  have hz := hx.1
  obtain ⟨h0, hh0⟩ : ∃ x : Nat, x = 2 * n + if z < 0 then 1 else 0 := ⟨_, rfl⟩
  have hW : wholeB z = natB h0 ++ (digits z.natAbs).flatMap b4 := by rw [hh0, hlen]; rfl
  generalize hds : digits z.natAbs = ds at *
  have HW := Lib.hid hW
  have HLn := Lib.hid hlen
  have hl2 : bs.length + (natB h0).length + (ds.flatMap b4).length ≤ 10000000000 := by rw [hW, List.length_append] at hl; omega
  have hc := wnat_ok (w.alloc (.cells #[.bool s, .slice A n c] 57)) base g v bs h0 (hs.keep (by repeat (first | (with_reducible exact Below.refl _ _) | (with_reducible assumption) | refine Below.setCell ?_ (by first | (simp; done) | (simp; omega) | omega) _ | refine Below.more ?_ (by first | (simp; done) | (simp; omega) | omega) _ _ | refine Below.alloc ?_ (by first | (simp; done) | (simp; omega) | omega) _ | refine Below.drew ?_ | refine Below.drewN ?_ _))) (by rw [hh0]; split <;> omega) (by omega)
  have HC := Lib.hid hc
  have HS := Lib.hid hs
  have HX := Lib.hid hx
  have HL := Lib.hid hl2
  have HDS := Lib.hid hds
  clear hs hx hl hl2 hc hW hlen hds
  go_enter Tryz.func241, Tryz.ntmps241
  have hn0 : (h0 : Int) = if s then (n : Int) * 2 + 1 else (n : Int) * 2 := by
    rw [hh0, hz]; by_cases hz0 : z < 0 <;> simp [hz0] <;> omega
  clear hh0 hz
  have HFar := Lib.hid (HS.out.far (Nat.le_refl _))
  cases s
  case' false => have hn0' : (n : Int) * 2 = (h0 : Int) := by simpa using hn0.symm
  case' true => have hn0' : Go.bits .or .u64 ((n : Int) * 2) 1 = (h0 : Int) := by rw [hor]; push_cast; simp at hn0; omega
  all_goals
    clear hn0 hor
    go_wp2_with fail
    refine HC.out.mono ?_; rintro e w1 ⟨v1, rfl, hw1, hk1, hb1⟩
    have c1 : w1.cell? ⟨w.heap.size, 1, none⟩ = some (.slice A n c) := ((hk1 []).cell (b := w.heap.size) (by simp) HFar.out 1).trans (by simp [go_sem, ↓IntWalk.iteOmega])
    go_wp2_with fail
    clear c1
    have hkw : ∀ ex, Kr w ([g] ++ (own v ++ ex)) w1 ([g] ++ (own v1 ++ ex)) := fun ex => (Kr.of_below (by repeat (first | (with_reducible exact Below.refl _ _) | (with_reducible assumption) | refine Below.setCell ?_ (by first | (simp; done) | (simp; omega) | omega) _ | refine Below.more ?_ (by first | (simp; done) | (simp; omega) | omega) _ _ | refine Below.alloc ?_ (by first | (simp; done) | (simp; omega) | omega) _ | refine Below.drew ?_ | refine Below.drewN ?_ _)) _).trans (hk1 ex)
    have hbw : Below g w w1 := Below.trans (show Below g w (w.alloc (.cells #[.bool _, .slice A n c] 57)) from (show Below w.heap.size w _ from (by repeat (first | (with_reducible exact Below.refl _ _) | (with_reducible assumption) | refine Below.setCell ?_ (by first | (simp; done) | (simp; omega) | omega) _ | refine Below.more ?_ (by first | (simp; done) | (simp; omega) | omega) _ _ | refine Below.alloc ?_ (by first | (simp; done) | (simp; omega) | omega) _ | refine Below.drew ?_ | refine Below.drewN ?_ _))).mono (Nat.le_of_lt HS.out.glt)) hb1
    generalize hB1 : bs ++ natB h0 = B1 at *
    have HB1 := Lib.hid hB1
    clear hB1 hk1 hb1
    go_loopw [22] (fun i wr => ∃ (k : Nat) (v' : Value), k ≤ n ∧ i = .int .i64 k ∧ WS wr base g v' (B1 ++ (ds.take k).flatMap b4) ∧ (∀ ex, Kr w ([g] ++ (own v ++ ex)) wr ([g] ++ (own v' ++ ex))) ∧ Below g w wr) (fun i _ => n - (intOf i).toNat)
    case atStart => exact ⟨0, v1, Nat.zero_le _, rfl, by simpa using hw1, hkw, hbw⟩
    case round =>
      obtain ⟨k, v', hk, rfl, hw, hkr, hb⟩ := hrel
      have m0 := hw.cell
      have m1 := hw.froz
      generalize hL : B1 ++ (ds.take k).flatMap b4 = L at *
      have HLL := Lib.hid hL; clear hL
      obtain ⟨A', c', rfl, hc'⟩ := hw.mine.form rfl
      by_cases hlt : k < n
      · have hxw := (HX.out.mono (hkr ex)).2
        rw [HDS.out] at hxw
        have hkl : k < ds.length := by rw [← HLn.out]; exact hlt
        obtain ⟨b, o, rfl, hbx, hcs⟩ := hxw.at_ (by omega)
        have hcell := hcs k hkl
        have hxb := hxw.wd _ (List.getElem_mem hkl)
        have HT := Lib.hid (show B1 ++ (ds.take (k + 1)).flatMap b4 = L ++ b4 ds[k] by
          rw [List.take_succ_eq_append_getElem hkl, List.flatMap_append, ← List.append_assoc, HLL.out]; simp)
        have hLl : L.length ≤ 10000000000 := by
          have h1 := HL.out
          have h2 := congrArg List.length HLL.out
          have h3 := congrArg List.length HB1.out
          rw [List.length_append] at h2 h3
          have h4 : ((ds.take k).flatMap b4).length ≤ (ds.flatMap b4).length := by
            conv => rhs; rw [← List.take_append_drop k ds, List.flatMap_append, List.length_append]
            exact Nat.le_add_right _ _
          omega
        obtain ⟨x, hx⟩ : ∃ x, ds[k] = x := ⟨_, rfl⟩
        rw [hx] at hcell hxb HT
        clear hxw hcs hx
        have hi1 : (k : Int) < (n : Int) := by omega
        go_wp2_with (at_builtin; go_loud (refine wpList_append_elts2 byE _ rfl _ _ 35 rfl Tryz.underlying35 base [] (.slice A' L.length c') L rfl (hw.mine.keep (by repeat (first | (with_reducible exact Below.refl _ _) | (with_reducible assumption) | refine Below.setCell ?_ (by first | (simp; done) | (simp; omega) | omega) _ | refine Below.more ?_ (by first | (simp; done) | (simp; omega) | omega) _ _ | refine Below.alloc ?_ (by first | (simp; done) | (simp; omega) | omega) _ | refine Below.drew ?_ | refine Below.drewN ?_ _))) _ 4 _ (b4 x) rfl rfl _ (row_b4 (by simp) (by intro hh; rw [List.append_nil] at hh; have := (hw.mine.le _ hh).2; omega)) (elts_b4 x hxb) (by omega) (by have := hw.le; simp; omega) ?_; intro v2 w2 ho2 hk2 hbl1 hbl2; obtain ⟨A2, c2, rfl, hc2⟩ := ho2.form (k := L.length + 4) (by simp [b4]); have hmid := hw.mid (show Below wr.heap.size wr _ from (by repeat (first | (with_reducible exact Below.refl _ _) | (with_reducible assumption) | refine Below.setCell ?_ (by first | (simp; done) | (simp; omega) | omega) _ | refine Below.more ?_ (by first | (simp; done) | (simp; omega) | omega) _ _ | refine Below.alloc ?_ (by first | (simp; done) | (simp; omega) | omega) _ | refine Below.drew ?_ | refine Below.drewN ?_ _))) hk2; have hst := hw.step (show Below wr.heap.size wr _ from (by repeat (first | (with_reducible exact Below.refl _ _) | (with_reducible assumption) | refine Below.setCell ?_ (by first | (simp; done) | (simp; omega) | omega) _ | refine Below.more ?_ (by first | (simp; done) | (simp; omega) | omega) _ _ | refine Below.alloc ?_ (by first | (simp; done) | (simp; omega) | omega) _ | refine Below.drew ?_ | refine Below.drewN ?_ _))) hk2 ho2 hbl2; have m0 := hmid.1; have m1 := hmid.2; clear hmid))
        go_wp2_with fail
        go_roundw
        case rel =>
          exact ⟨k + 1, _, by omega, by go_num, by rw [HT.out]; exact hst.1, fun ex => (hkr ex).trans (hst.2.1 ex), hb.trans hst.2.2⟩
        case measure => simp [intOf]; omega
      · obtain rfl : k = n := by omega
        go_wp2_with fail
        go_end0
        refine ⟨_, rfl, ?_, hkr, hb⟩
        rw [HW.out, ← List.append_assoc, HB1.out, ← List.take_of_length_le (l := ds) (show ds.length ≤ k by rw [← HLn.out]; exact Nat.le_refl _), HLL.out]
        exact hw

set_option maxHeartbeats 2000000 in
theorem wrational_ok (w : World) (base g : Nat) (v : Value) (bs : List Nat) (ex : List Nat) (s1 : Bool) (A1 : Option Addr) (n1 c1 : Nat) (s2 : Bool) (A2 : Option Addr) (n2 c2 : Nat) (q : Rat) (hs : WS w base g v bs) (hx : RQ w ([g] ++ (own v ++ ex)) s1 A1 n1 c1 s2 A2 n2 c2 q) (hl : bs.length + (ratB q).length ≤ 10000000000) :
    Calls Tryz.prog 227 #[.pointer (some ⟨g, 0, none⟩), .agg #[.bool s1, .slice A1 n1 c1, .bool s2, .slice A2 n2 c2]] w (RetWr w base g v (bs ++ ratB q)) := by
  have HS := Lib.hid hs
  have HFar := Lib.hid (hs.far (Nat.le_refl _))
  have HX := Lib.hid hx
  have HL := Lib.hid (show bs.length + (wholeB q.num).length + (wholeB (q.den : Int)).length ≤ 10000000000 by unfold ratB at hl; rw [List.length_append] at hl; omega)
  clear hs hx hl
  go_enter Tryz.func227, Tryz.ntmps227
  go_wp2_with fail
  refine (wwhole_ok _ base g v bs ex s1 A1 n1 c1 q.num (HS.out.keep (by repeat (first | (with_reducible exact Below.refl _ _) | (with_reducible assumption) | refine Below.setCell ?_ (by first | (simp; done) | (simp; omega) | omega) _ | refine Below.more ?_ (by first | (simp; done) | (simp; omega) | omega) _ _ | refine Below.alloc ?_ (by first | (simp; done) | (simp; omega) | omega) _ | refine Below.drew ?_ | refine Below.drewN ?_ _))) (HX.out.1.mono (Kr.of_below (by repeat (first | (with_reducible exact Below.refl _ _) | (with_reducible assumption) | refine Below.setCell ?_ (by first | (simp; done) | (simp; omega) | omega) _ | refine Below.more ?_ (by first | (simp; done) | (simp; omega) | omega) _ _ | refine Below.alloc ?_ (by first | (simp; done) | (simp; omega) | omega) _ | refine Below.drew ?_ | refine Below.drewN ?_ _)) _)) (by have := HL.out; omega)).mono ?_; rintro e w1 ⟨v1, rfl, hw1, hk1, hb1⟩
  have d0 : w1.cell? ⟨w.heap.size, 2, none⟩ = some (.bool s2) := ((hk1 []).cell (b := w.heap.size) (by simp) HFar.out 2).trans (by simp [go_sem, ↓IntWalk.iteOmega])
  have d1 : w1.cell? ⟨w.heap.size, 3, none⟩ = some (.slice A2 n2 c2) := ((hk1 []).cell (b := w.heap.size) (by simp) HFar.out 3).trans (by simp [go_sem, ↓IntWalk.iteOmega])
  go_wp2_with fail
  refine (wwhole_ok _ base g v1 (bs ++ wholeB q.num) ex s2 A2 n2 c2 (q.den : Int) hw1 (HX.out.den.mono ((Kr.of_below (by repeat (first | (with_reducible exact Below.refl _ _) | (with_reducible assumption) | refine Below.setCell ?_ (by first | (simp; done) | (simp; omega) | omega) _ | refine Below.more ?_ (by first | (simp; done) | (simp; omega) | omega) _ _ | refine Below.alloc ?_ (by first | (simp; done) | (simp; omega) | omega) _ | refine Below.drew ?_ | refine Below.drewN ?_ _)) _).trans (hk1 ex))) (by have := HL.out; rw [List.length_append]; omega)).mono ?_; rintro e w2 ⟨v2, rfl, hw2, hk2, hb2⟩
  go_wp2_with fail
  go_end0
  refine ⟨v2, rfl, by unfold ratB; rw [← List.append_assoc]; exact hw2, fun ex' => ((Kr.of_below (by repeat (first | (with_reducible exact Below.refl _ _) | (with_reducible assumption) | refine Below.setCell ?_ (by first | (simp; done) | (simp; omega) | omega) _ | refine Below.more ?_ (by first | (simp; done) | (simp; omega) | omega) _ _ | refine Below.alloc ?_ (by first | (simp; done) | (simp; omega) | omega) _ | refine Below.drew ?_ | refine Below.drewN ?_ _)) _).trans (hk1 ex')).trans (hk2 ex'), ?_⟩
  exact ((show Below w.heap.size w _ from (by repeat (first | (with_reducible exact Below.refl _ _) | (with_reducible assumption) | refine Below.setCell ?_ (by first | (simp; done) | (simp; omega) | omega) _ | refine Below.more ?_ (by first | (simp; done) | (simp; omega) | omega) _ _ | refine Below.alloc ?_ (by first | (simp; done) | (simp; omega) | omega) _ | refine Below.drew ?_ | refine Below.drewN ?_ _))).mono (Nat.le_of_lt HS.out.glt)).trans (hb1.trans hb2)

end Go.Proofs.YthhdleppkggepaaGreat
