/-
  The walks of package polynomial: the order.
-/
import Derived.Lib.SliceRun
import Derived.Test.YthhdleppkggepaaGreatSb12
import Derived.Test.YthhdleppkggepaaGreatSb14
import Derived.Test.YthhdleppkggepaaGreatSb17

set_option linter.unusedSimpArgs false
set_option linter.unusedVariables false
set_option linter.unusedSectionVars false

namespace Go.Proofs.YthhdleppkggepaaGreat
open Go.RowKit Go.Deep
set_option maxRecDepth 100000

def cmpT (a b : Rat × List Int) : Int := if cmpL a.2 b.2 = 0 then cmpQ a.1 b.1 else cmpL a.2 b.2
theorem cmpP_dropT {p q : List (Rat × List Int)} {k : Nat} (hp : k < p.length) (hq : k < q.length) :
    cmpP (p.drop k) (q.drop k) = if cmpT p[k] q[k] = 0 then cmpP (p.drop (k + 1)) (q.drop (k + 1)) else cmpT p[k] q[k] := by
  rw [cmpP_drop hp hq]
  unfold cmpT
  by_cases h1 : cmpL p[k].2 q[k].2 = 0
  · rw [if_pos h1, if_pos h1]
  · rw [if_neg h1, if_neg h1, if_neg h1]
theorem cmpP_end1 {p q : List (Rat × List Int)} {k : Nat} (hp : k < p.length) (hq : q.length ≤ k) : cmpP (p.drop k) (q.drop k) = 1 := by
  rw [List.drop_eq_getElem_cons hp, List.drop_of_length_le hq]; rfl
theorem cmpP_end2 {p q : List (Rat × List Int)} {k : Nat} (hp : p.length ≤ k) (hq : k < q.length) : cmpP (p.drop k) (q.drop k) = -1 := by
  rw [List.drop_eq_getElem_cons hq, List.drop_of_length_le hp]; rfl
theorem cmpP_end3 {p q : List (Rat × List Int)} {k : Nat} (hp : p.length ≤ k) (hq : q.length ≤ k) : cmpP (p.drop k) (q.drop k) = 0 := by
  rw [List.drop_of_length_le hq, List.drop_of_length_le hp]; rfl

set_option maxHeartbeats 2000000 in
theorem pcmp1_ok (w : World) (ex : List Nat) (s1 : Bool) (A1 : Option Addr) (n1 c1 : Nat) (s2 : Bool) (A2 : Option Addr) (n2 c2 : Nat) (s3 : Bool) (A3 : Option Addr) (n3 c3 : Nat) (s4 : Bool) (A4 : Option Addr) (n4 c4 : Nat) (a b : Rat) (e0 e1 e2 e3 e4 e5 e6 e7 f0 f1 f2 f3 f4 f5 f6 f7 : Int) (hx : RQ w ex s1 A1 n1 c1 s2 A2 n2 c2 a) (hy : RQ w ex s3 A3 n3 c3 s4 A4 n4 c4 b) (ha : Few a) (hb : Few b) :
    Calls Tryz.prog 145 #[.agg #[.bool s1, .slice A1 n1 c1, .bool s2, .slice A2 n2 c2, .int .i64 e0, .int .i64 e1, .int .i64 e2, .int .i64 e3, .int .i64 e4, .int .i64 e5, .int .i64 e6, .int .i64 e7], .agg #[.bool s3, .slice A3 n3 c3, .bool s4, .slice A4 n4 c4, .int .i64 f0, .int .i64 f1, .int .i64 f2, .int .i64 f3, .int .i64 f4, .int .i64 f5, .int .i64 f6, .int .i64 f7]] w (RetV w (.int .i64 (cmpT (a, [e0, e1, e2, e3, e4, e5, e6, e7]) (b, [f0, f1, f2, f3, f4, f5, f6, f7])))) := by
  obtain ⟨z, hz⟩ : ∃ z, cmpL [e0, e1, e2, e3, e4, e5, e6, e7] [f0, f1, f2, f3, f4, f5, f6, f7] = z := ⟨_, rfl⟩
  have HZ := Lib.hid hz
  by_cases h0 : z = 0
  · subst h0
    have HC : Hid (cmpT (a, [e0, e1, e2, e3, e4, e5, e6, e7]) (b, [f0, f1, f2, f3, f4, f5, f6, f7]) = cmpQ a b) := if_pos hz
    clear hz
    go_enter Tryz.func145, Tryz.ntmps145
    go_wp2_with fail
    refine (mcmp_ok _ e0 e1 e2 e3 e4 e5 e6 e7 f0 f1 f2 f3 f4 f5 f6 f7).mono ?_; rintro e w1 ⟨X, D, rfl, rfl⟩
    rw [HZ.out]
    go_wp2_with fail
    refine (ratcmp_ok _ ex s1 A1 n1 c1 s2 A2 n2 c2 a s3 A3 n3 c3 s4 A4 n4 c4 b (hx.mono (Kr.of_below (by repeat first | with_reducible exact .refl .. | with_reducible assumption | refine .s ?_ ?_ | refine .m ?_ ?_ | refine .l ?_ ?_ | refine .d ?_ | refine .e ?_ | (simp <;> omega) | omega) _)) (hy.mono (Kr.of_below (by repeat first | with_reducible exact .refl .. | with_reducible assumption | refine .s ?_ ?_ | refine .m ?_ ?_ | refine .l ?_ ?_ | refine .d ?_ | refine .e ?_ | (simp <;> omega) | omega) _)) ha hb).mono ?_; rintro e w1 ⟨X2, D2, rfl, rfl⟩
    go_wp2_with fail
    go_ret
    rw [HC.out]
    exact RetV.mk rfl (by repeat first | with_reducible exact .refl .. | with_reducible assumption | refine .s ?_ ?_ | refine .m ?_ ?_ | refine .l ?_ ?_ | refine .d ?_ | refine .e ?_ | (simp <;> omega) | omega)
  · have HC : Hid (cmpT (a, [e0, e1, e2, e3, e4, e5, e6, e7]) (b, [f0, f1, f2, f3, f4, f5, f6, f7]) = z) := (if_neg (by show ¬ cmpL [e0, e1, e2, e3, e4, e5, e6, e7] [f0, f1, f2, f3, f4, f5, f6, f7] = 0; rw [hz]; exact h0)).trans hz
    have hzb : (z == 0) = false := by simpa using h0
    clear hz
    go_enter Tryz.func145, Tryz.ntmps145
    go_wp2_with fail
    refine (mcmp_ok _ e0 e1 e2 e3 e4 e5 e6 e7 f0 f1 f2 f3 f4 f5 f6 f7).mono ?_; rintro e w1 ⟨X, D, rfl, rfl⟩
    rw [HZ.out]
    go_wp2_with fail
    go_ret
    rw [HC.out]
    exact RetV.mk rfl (by repeat first | with_reducible exact .refl .. | with_reducible assumption | refine .s ?_ ?_ | refine .m ?_ ?_ | refine .l ?_ ?_ | refine .d ?_ | refine .e ?_ | (simp <;> omega) | omega)

set_option maxHeartbeats 4000000 in
theorem comparefunc_ok (w : World) (ex : List Nat) (B1 : Option Addr) (np cp : Nat) (p : List (Rat × List Int)) (B2 : Option Addr) (nq cq : Nat) (q : List (Rat × List Int)) (hx : RP w ex B1 np cp p) (hy : RP w ex B2 nq cq q)
    (htp : PTy p) (htq : PTy q) (hnp : np ≤ 1000000000) (hnq : nq ≤ 1000000000) :
    Calls Tryz.prog 144 #[.slice B1 np cp, .slice B2 nq cq, .func (Fn.func 145) #[] #[]] w (RetV w (.int .i64 (cmpP p q))) := by
  have HL1 := Lib.hid hx.len
  have HL2 := Lib.hid hy.len
  have hcap1 := hx.cap
  have hcap2 := hy.cap
  have HT1 := Lib.hid htp
  have HT2 := Lib.hid htq
  clear htp htq
  go_enter Tryz.func144, Tryz.ntmps144
  go_wp2_with fail
  go_loopw [7, 13] (fun _ i wr => ∃ k : Nat, k ≤ np ∧ k ≤ nq ∧ i = .int .i64 k ∧ Hid (cmpP (p.drop k) (q.drop k) = cmpP p q) ∧ Below w.heap.size w wr) (fun _ i _ => np - (intOf i).toNat)
  case atStart => exact ⟨0, Nat.zero_le _, Nat.zero_le _, rfl, Lib.hid rfl, (by repeat first | with_reducible exact .refl .. | with_reducible assumption | refine .s ?_ ?_ | refine .m ?_ ?_ | refine .l ?_ ?_ | refine .d ?_ | refine .e ?_ | (simp <;> omega) | omega)⟩
  case round =>
    obtain ⟨k, hk, hk2, rfl, HC, hb⟩ := hrel
    have hsz := hb.size
    have hxw := hx.mono (Kr.of_below hb ex)
    have hyw := hy.mono (Kr.of_below hb ex)
    by_cases hk1 : k < np
    · obtain ⟨b, o, rfl, hbx, hbl, ht⟩ := hxw.at_ (by omega)
      have hkp : k < p.length := by have := HL1.out; omega
      obtain ⟨s1, A1, n1, c1, s2, A2, n2, c2, e0, e1, e2, e3, e4, e5, e6, e7, h0, h1, h2, h3, h4, h5, h6, h7, h8, h9, h10, h11, hq, hm⟩ := ht k hkp
      clear ht
      have hii : (k : Int) < (np : Int) := by omega
      by_cases hk3 : k < nq
      · obtain ⟨b', o', rfl, hbx', hbl', ht⟩ := hyw.at_ (by omega)
        have hkq : k < q.length := by have := HL2.out; omega
        obtain ⟨s3, A3, n3, c3, s4, A4, n4, c4, f0, f1, f2, f3, f4, f5, f6, f7, g0, g1, g2, g3, g4, g5, g6, g7, g8, g9, g10, g11, gq, gm⟩ := ht k hkq
        clear ht
        have hkk : (k : Int) < (nq : Int) := by omega
        have hst := cmpP_dropT hkp hkq
        have he1 : p[k] = (p[k].1, [e0, e1, e2, e3, e4, e5, e6, e7]) := by rw [← hm]
        have he2 : q[k] = (q[k].1, [f0, f1, f2, f3, f4, f5, f6, f7]) := by rw [← gm]
        have hT1 : Ty p[k].1 := HT1.out _ (List.getElem_mem hkp)
        have hT2 : Ty q[k].1 := HT2.out _ (List.getElem_mem hkq)
        obtain ⟨x, hx1⟩ : ∃ x, p[k].1 = x := ⟨_, rfl⟩
        obtain ⟨y, hy1⟩ : ∃ y, q[k].1 = y := ⟨_, rfl⟩
        rw [hx1] at he1 hq hT1
        rw [hy1] at he2 gq hT2
        rw [he1, he2, HC.out] at hst
        obtain ⟨z, hz⟩ : ∃ z, cmpT (x, [e0, e1, e2, e3, e4, e5, e6, e7]) (y, [f0, f1, f2, f3, f4, f5, f6, f7]) = z := ⟨_, rfl⟩
        rw [hz] at hst
        have HZ := Lib.hid hz
        have HS := Lib.hid hst
        clear hz hst he1 he2 hx1 hy1 hm gm
        go_wp2_with fail
        refine (pcmp1_ok _ ex s1 A1 n1 c1 s2 A2 n2 c2 s3 A3 n3 c3 s4 A4 n4 c4 x y e0 e1 e2 e3 e4 e5 e6 e7 f0 f1 f2 f3 f4 f5 f6 f7 (hq.mono (Kr.of_below (by repeat first | with_reducible exact .refl .. | with_reducible assumption | refine .s ?_ ?_ | refine .m ?_ ?_ | refine .l ?_ ?_ | refine .d ?_ | refine .e ?_ | (simp <;> omega) | omega) _)) (gq.mono (Kr.of_below (by repeat first | with_reducible exact .refl .. | with_reducible assumption | refine .s ?_ ?_ | refine .m ?_ ?_ | refine .l ?_ ?_ | refine .d ?_ | refine .e ?_ | (simp <;> omega) | omega) _)) hT1.few hT2.few).mono ?_; rintro e w1 ⟨X, D, rfl, rfl⟩
        rw [HZ.out]
        by_cases h0 : z = 0
        · subst h0
          go_wp2_with fail
          go_roundw
          case rel => exact ⟨k + 1, by omega, by omega, by go_num, Lib.hid (by rw [HS.out]; simp), (by repeat first | with_reducible exact .refl .. | with_reducible assumption | refine .s ?_ ?_ | refine .m ?_ ?_ | refine .l ?_ ?_ | refine .d ?_ | refine .e ?_ | (simp <;> omega) | omega)⟩
          case measure => simp [intOf]; omega
        · have hzb : (z == 0) = false := by simpa using h0
          have HE : Hid (cmpP p q = z) := by have hh := HS.out; simp [h0] at hh; exact hh
          go_wp2_with fail
          go_ret
          rw [HE.out]
          exact RetV.mk rfl (by repeat first | with_reducible exact .refl .. | with_reducible assumption | refine .s ?_ ?_ | refine .m ?_ ?_ | refine .l ?_ ?_ | refine .d ?_ | refine .e ?_ | (simp <;> omega) | omega)
      · obtain rfl : k = nq := by omega
        have HE : Hid (cmpP p q = 1) := by rw [← HC.out]; exact cmpP_end1 hkp (by have := HL2.out; omega)
        go_wp2_with fail
        go_ret
        rw [HE.out]
        exact RetV.mk rfl (by repeat first | with_reducible exact .refl .. | with_reducible assumption | refine .s ?_ ?_ | refine .m ?_ ?_ | refine .l ?_ ?_ | refine .d ?_ | refine .e ?_ | (simp <;> omega) | omega)
    · obtain rfl : k = np := by omega
      by_cases hk3 : k < nq
      · have HE : Hid (cmpP p q = -1) := by rw [← HC.out]; exact cmpP_end2 (by have := HL1.out; omega) (by have := HL2.out; omega)
        have hkk : (k : Int) < (nq : Int) := by omega
        go_wp2_with fail
        go_ret
        rw [HE.out]
        exact RetV.mk rfl (by repeat first | with_reducible exact .refl .. | with_reducible assumption | refine .s ?_ ?_ | refine .m ?_ ?_ | refine .l ?_ ?_ | refine .d ?_ | refine .e ?_ | (simp <;> omega) | omega)
      · have HE : Hid (cmpP p q = 0) := by rw [← HC.out]; exact cmpP_end3 (by have := HL1.out; omega) (by have := HL2.out; omega)
        go_wp2_with fail
        go_ret
        rw [HE.out]
        exact RetV.mk rfl (by repeat first | with_reducible exact .refl .. | with_reducible assumption | refine .s ?_ ?_ | refine .m ?_ ?_ | refine .l ?_ ?_ | refine .d ?_ | refine .e ?_ | (simp <;> omega) | omega)

set_option maxHeartbeats 400000 in
theorem pcmp_ok (w : World) (ex : List Nat) (B1 : Option Addr) (np cp : Nat) (p : List (Rat × List Int)) (B2 : Option Addr) (nq cq : Nat) (q : List (Rat × List Int)) (hx : RP w ex B1 np cp p) (hy : RP w ex B2 nq cq q)
    (htp : PTy p) (htq : PTy q) (hnp : np ≤ 1000000000) (hnq : nq ≤ 1000000000) :
    Calls Tryz.prog 97 #[.slice B1 np cp, .slice B2 nq cq] w (RetV w (.int .i64 (cmpP p q))) := by
  go_enter Tryz.func97, Tryz.ntmps97
  go_wp2_with fail
  refine (comparefunc_ok _ ex B1 np cp p B2 nq cq q hx hy htp htq hnp hnq).mono ?_; rintro e w1 ⟨X, D, rfl, rfl⟩
  go_wp2_with fail
  go_ret
  exact RetV.mk rfl (by repeat first | with_reducible exact .refl .. | with_reducible assumption | refine .s ?_ ?_ | refine .m ?_ ?_ | refine .l ?_ ?_ | refine .d ?_ | refine .e ?_ | (simp <;> omega) | omega)

set_option maxHeartbeats 400000 in
theorem psame_ok (w : World) (ex : List Nat) (B1 : Option Addr) (np cp : Nat) (p : List (Rat × List Int)) (B2 : Option Addr) (nq cq : Nat) (q : List (Rat × List Int)) (hx : RP w ex B1 np cp p) (hy : RP w ex B2 nq cq q)
    (htp : PTy p) (htq : PTy q) (hnp : np ≤ 1000000000) (hnq : nq ≤ 1000000000) :
    Calls Tryz.prog 80 #[.slice B1 np cp, .slice B2 nq cq] w (RetV w (.bool (cmpP p q == 0))) := by
  go_enter Tryz.func80, Tryz.ntmps80
  go_wp2_with fail
  refine (pcmp_ok _ ex B1 np cp p B2 nq cq q hx hy htp htq hnp hnq).mono ?_; rintro e w1 ⟨X, D, rfl, rfl⟩
  go_wp2_with fail
  go_ret
  exact RetV.mk rfl (by repeat first | with_reducible exact .refl .. | with_reducible assumption | refine .s ?_ ?_ | refine .m ?_ ?_ | refine .l ?_ ?_ | refine .d ?_ | refine .e ?_ | (simp <;> omega) | omega)

end Go.Proofs.YthhdleppkggepaaGreat

/-
  slices.SortFunc at a row of polynomials, by polynomial.Cmp.
-/
namespace Go.Proofs.YthhdleppkggepaaGreat
open Go.RowKit Go.Deep
set_option maxRecDepth 100000

/-- A slice that holds a polynomial, in a world and outside a block. -/
structure PEl (w : World) (ex : List Nat) where
  A : Option Addr
  n : Nat
  c : Nat
  p : List (Rat × List Int)
  rp : RP w ex A n c p
  gp : GP p
def PEl.enc {w : World} {ex : List Nat} (x : PEl w ex) : Value := .slice x.A x.n x.c
instance {w : World} {ex : List Nat} : Inhabited (PEl w ex) := ⟨⟨none, 0, 0, [], RP.nil _ _ _ _, ⟨fun _ h => by (cases h), fun _ h => by (cases h), by simp⟩⟩⟩
def PEl.cf {w : World} {ex : List Nat} (x y : PEl w ex) : Int := cmpP x.p y.p

theorem swoP {w : World} {ex : List Nat} : Sort.SWO (ltOf (PEl.cf (w := w) (ex := ex))) where
  irrefl x := by simp [ltOf, PEl.cf, cmpP_self]
  trans x y z h1 h2 := by
    have h1' : cmpP x.p y.p < 0 := of_decide_eq_true h1
    have h2' : cmpP y.p z.p < 0 := of_decide_eq_true h2
    exact decide_eq_true (cmpP_trans x.rp.len8 y.rp.len8 z.rp.len8 h1' h2')
  ntrans x y z h1 h2 := by
    have h1' : ¬ cmpP x.p y.p < 0 := of_decide_eq_false h1
    have h2' : ¬ cmpP y.p z.p < 0 := of_decide_eq_false h2
    refine decide_eq_false ?_
    show ¬ cmpP x.p z.p < 0
    intro h3
    have hx := x.rp.len8
    have hy := y.rp.len8
    have hz := z.rp.len8
    rcases cmpP_cases x.p y.p with e | e | e
    · omega
    · have := cmpP_zero hx hy e; rw [this] at h3; exact h2' h3
    · have h4 : cmpP y.p x.p < 0 := by rw [cmpP_swap]; omega
      exact h2' (cmpP_trans hy hx hz h4 h3)

/-- A row of polynomials that may be written. -/
def PRow (w : World) (ex : List Nat) (g : Nat) (l : List (List (Rat × List Int))) : Prop :=
  ∀ k (hk : k < l.length), ∃ A n c, w.cell? ⟨g, k, none⟩ = some (.slice A n c) ∧ w.frozen? ⟨g, k, none⟩ = false ∧ RP w ([g] ++ ex) A n c l[k]
theorem sortWorld_block {α : Type} [Inhabited α] (enc : α → Value) (w : World) (blk off m : Nat) (dk : Array α) (os : Array Obj) {b : Nat} (hb : b < w.heap.size) (hne : b ≠ blk) : (sortWorld enc w blk off m dk os).heap[b]? = w.heap[b]? := by
  unfold sortWorld
  rw [Sort.heap_grow_old _ _ (by simpa using hb)]
  simp [Sort.putRow, Sort.mapBlock, Array.getElem?_modify]
  omega
theorem sortWorld_size {α : Type} [Inhabited α] (enc : α → Value) (w : World) (blk off m : Nat) (dk : Array α) (os : Array Obj) : w.heap.size ≤ (sortWorld enc w blk off m dk os).heap.size := by
  unfold sortWorld; simp
theorem sortWorld_kr {α : Type} [Inhabited α] (enc : α → Value) (w : World) (blk off m : Nat) (dk : Array α) (os : Array Obj) (ex : List Nat) : Kr w ([blk] ++ ex) (sortWorld enc w blk off m dk os) ([blk] ++ ex) :=
  ⟨sortWorld_size _ _ _ _ _ _ _, fun _ _ h => h, fun b hb hx => sortWorld_block _ _ _ _ _ _ _ hb (by intro e; apply hx; simp [e])⟩

theorem cmpLaysP (w : World) (ex : List Nat) (blk size : Nat) : CmpLays1 Tryz.prog 97 #[] (PEl.enc (w := w) (ex := [blk] ++ ex)) PEl.cf blk 0 size w := by
  intro m os dk _ x y
  refine (pcmp_ok _ ([blk] ++ ex) x.A x.n x.c x.p y.A y.n y.c y.p (x.rp.mono (sortWorld_kr _ _ _ _ _ _ _ _)) (y.rp.mono (sortWorld_kr _ _ _ _ _ _ _ _)) x.gp.ty y.gp.ty (by rw [x.rp.len]; have := x.gp.len; omega) (by rw [y.rp.len]; have := y.gp.len; omega)).mono ?_
  rintro e w' ⟨X, D, rfl, rfl⟩
  exact ⟨rfl, D, X, rfl⟩

theorem sortP_ok (w : World) (ex : List Nat) (blk c : Nat) (l : List (List (Rat × List Int))) (hr : PRow w ex blk l) (hg : ∀ p ∈ l, GP p) (hblk : blk < w.heap.size) (hl : l.length < 1000000000) :
    Calls Tryz.prog 96 #[.slice (some ⟨blk, 0, none⟩) l.length c, .func (Fn.func 97) #[] #[]] w fun e w' =>
      e = .returned (.tuple #[]) ∧ ∃ l', l'.Perm l ∧ l'.Pairwise (fun p q => ¬ cmpP q p < 0) ∧ w.grownBy w' (some blk) ∧ w.drawn ≤ w'.drawn ∧ PRow w' ex blk l' := by
  have hch : ∀ k : Fin l.length, ∃ x : PEl w ([blk] ++ ex), x.p = l[k] ∧ w.cell? ⟨blk, k, none⟩ = some x.enc ∧ w.frozen? ⟨blk, k, none⟩ = false := by
    intro k
    obtain ⟨A, n, c, h1, h2, h3⟩ := hr k k.2
    exact ⟨⟨A, n, c, _, h3, hg _ (List.getElem_mem k.2)⟩, rfl, h1, h2⟩
  obtain ⟨f, hf⟩ := Classical.axiomOfChoice hch
  have hsz : (Array.ofFn f).size = l.length := Array.size_ofFn
  have hH : Sort.Holds (PEl.enc (w := w) (ex := [blk] ++ ex)) w blk 0 (Array.ofFn f) := by
    intro j hj
    rw [hsz] at hj
    have h1 := hf ⟨j, hj⟩
    have e : (Array.ofFn f)[j]! = f ⟨j, hj⟩ := by rw [getElem!_pos _ j (by rw [hsz]; exact hj)]; simp
    rw [e, Nat.zero_add]
    exact h1.2
  have eg : ∀ args w, (callFunc 97 args).run Tryz.prog w = .ok (.enter 97 args) w := enters_of Tryz.func97 (by kernel_rfl) rfl
  have hcon := Any.slices_SortFunc Tryz.sortP (PEl.enc (w := w) (ex := [blk] ++ ex)) (fun _ => rfl) PEl.cf swoP 97 #[] blk 0 c (Array.ofFn f) w eg (cmpLaysP w ex blk _) hH hblk (by rw [hsz]; omega)
  rw [hsz] at hcon
  change Calls Tryz.prog 96 _ _ _ at hcon
  refine hcon.mono ?_
  rintro e w' ⟨rfl, d', n, os, hp, hs, rfl⟩
  have hsz' : d'.size = l.length := by rw [← hsz]; exact hp.1
  have hcl := Sort.holds_grow (PEl.enc (w := w) (ex := [blk] ++ ex)) (Sort.putRow PEl.enc (Sort.ahead w n) blk 0 d') os blk 0 d' (by simpa using hblk) (Sort.holds_putRow _ _ _ _ _ _ (Sort.holds_ahead _ w n blk 0 _ hH) (by rw [hsz', hsz]))
  refine ⟨rfl, d'.toList.map PEl.p, ?_, ?_, ?_, ?_, ?_⟩
  · have h3 := hp.2.2
    have hxx : ∀ (a : Array (PEl w ([blk] ++ ex))) (n : Nat), a.size = n → a.extract 0 n = a := by rintro a n rfl; exact Array.extract_size
    rw [hxx d' _ hsz', hxx _ _ hsz] at h3
    have h4 := h3.map PEl.p
    have h5 : (Array.ofFn f).toList.map PEl.p = l := by
      apply List.ext_getElem
      · simp
      · intro i h1 h2
        simp only [List.getElem_map, Array.getElem_toList, Array.getElem_ofFn]
        exact (hf ⟨i, h2⟩).1
    rwa [h5] at h4
  · rw [List.pairwise_iff_getElem]
    intro i j hi hj hij
    simp only [List.length_map, Array.length_toList] at hi hj
    have := hs i j (Nat.zero_le _) hij (by rw [← hsz']; exact hj)
    have h2 : ¬ (PEl.cf d'[j]! d'[i]! < 0) := of_decide_eq_false this
    rw [getElem!_pos d' j hj, getElem!_pos d' i hi] at h2
    simpa [PEl.cf] using h2
  · exact ⟨rfl, rfl, rfl, sortWorld_size _ _ _ _ _ _ _, fun k hk hne => sortWorld_block _ _ _ _ _ _ _ hk (fun e => hne (by rw [e]))⟩
  · exact Nat.le_add_right w.drawn n
  · intro k hk
    simp only [List.length_map, Array.length_toList] at hk
    obtain ⟨h1, h2⟩ := hcl k hk
    rw [Nat.zero_add, getElem!_pos d' k hk] at h1
    rw [Nat.zero_add] at h2
    refine ⟨d'[k].A, d'[k].n, d'[k].c, h1, h2, ?_⟩
    simp only [List.getElem_map, Array.getElem_toList]
    exact d'[k].rp.mono (sortWorld_kr _ _ _ _ _ _ _ _)

end Go.Proofs.YthhdleppkggepaaGreat

/-
  The walk of slices.CompactFunc at a row of polynomials, by polynomial.Same.
-/
namespace Go.Proofs.YthhdleppkggepaaGreat
open Go.RowKit Go.Deep
set_option maxRecDepth 100000

abbrev Pol := List (Rat × List Int)
/-- Of each run of equal neighbours the first one, among the first j. -/
def compK (l : List Pol) : Nat → List Pol
  | 0 => []
  | j + 1 => if 0 < j ∧ cmpP (l.getD j []) (l.getD (j - 1) []) = 0 then compK l j else compK l j ++ [l.getD j []]
def compactP (l : List Pol) : List Pol := compK l l.length
theorem compK_len (l : List Pol) : ∀ j, (compK l j).length ≤ j
  | 0 => Nat.le_refl _
  | j + 1 => by
    have := compK_len l j
    unfold compK; split
    · omega
    · simp; omega
theorem getD_at {l : List Pol} {k : Nat} (hk : k < l.length) : l.getD k [] = l[k] := by simp [hk]
theorem compK_keep {l : List Pol} {k : Nat} (hk : k < l.length) (h : compK l k = l.take k) (hne : 0 < k → cmpP l[k] (l.getD (k - 1) []) ≠ 0) : compK l (k + 1) = l.take (k + 1) := by
  rw [compK, if_neg (by rintro ⟨h1, h2⟩; rw [getD_at hk] at h2; exact hne h1 h2), h, getD_at hk, List.take_succ_eq_append_getElem hk]

section
variable {w w' : World} {ex : List Nat} {g : Nat} {l : List Pol}
theorem PRow.keep (h : PRow w ex g l) (hb : Below w.heap.size w w') : PRow w' ex g l := by
  intro k hk
  obtain ⟨A, n, c, h1, h2, h3⟩ := h k hk
  have hlt := World.block_lt_of_cell? w _ h1
  exact ⟨A, n, c, (World.cell?_of_block (w := w) (hb.block _ hlt)).trans h1, (World.frozen?_of_block (w := w) (hb.block _ hlt)).trans h2, h3.mono (Kr.of_below hb _)⟩
theorem PRow.set (h : PRow w ex g l) {i : Nat} (hi : i < l.length) {A : Option Addr} {n c : Nat} {p : Pol} (hp : RP w ([g] ++ ex) A n c p) : PRow (w.setCell ⟨g, i, none⟩ (.slice A n c)) ex g (l.set i p) := by
  have hk : Kr w ([g] ++ ex) (w.setCell ⟨g, i, none⟩ (.slice A n c)) ([g] ++ ex) := (Kr.refl _ _).setCell _ (by simp)
  intro k hkl
  have hkl' : k < l.length := by simpa using hkl
  obtain ⟨A', n', c', h1, h2, h3⟩ := h k hkl'
  by_cases e : k = i
  · subst e
    refine ⟨A, n, c, ?_, ?_, ?_⟩
    · rw [World.cell?_setCell_same w _ _ h1]
    · rw [World.frozen?_setCell]; exact h2
    · rw [List.getElem_set_self]; exact hp.mono hk
  · refine ⟨A', n', c', ?_, ?_, ?_⟩
    · rw [World.cell?_setCell_other w _ _ _ (fun hh => e (by injection hh with _ h5 _; exact h5.symm))]; exact h1
    · rw [World.frozen?_setCell]; exact h2
    · rw [List.getElem_set_ne (fun hh => e hh.symm)]; exact h3.mono hk
theorem PRow.take (h : PRow w ex g l) (m : Nat) : PRow w ex g (l.take m) := by
  intro k hk
  simp only [List.length_take] at hk
  obtain ⟨A, n, c, h1, h2, h3⟩ := h k (by omega)
  exact ⟨A, n, c, h1, h2, by rw [List.getElem_take]; exact h3⟩
theorem setCells_heap (b : Nat) : ∀ (vs : List Value) (o : Nat) (w : World), (w.setCells b o vs).heap.size = w.heap.size ∧ (w.setCells b o vs).drawn = w.drawn ∧ (w.setCells b o vs).os = w.os ∧ (w.setCells b o vs).tape = w.tape ∧ (w.setCells b o vs).output = w.output ∧ ∀ k, k ≠ b → (w.setCells b o vs).heap[k]? = w.heap[k]?
  | [], o, w => ⟨rfl, rfl, rfl, rfl, rfl, fun _ _ => rfl⟩
  | v :: vs, o, w => by
    obtain ⟨h1, h2, h3, h4, h5, h6⟩ := setCells_heap b vs (o + 1) (w.setCell ⟨b, o, none⟩ v)
    exact ⟨by rw [World.setCells, h1]; simp [World.setCell], h2, h3, h4, h5, fun k hk => (h6 k hk).trans (Below.heap_setCell w ⟨b, o, none⟩ v k hk)⟩
theorem PRow.clear (h : PRow w ex g l) {o : Nat} (ho : l.length ≤ o) (vs : List Value) : PRow (w.setCells g o vs) ex g l := by
  obtain ⟨h1, h2, h3, h4, h5, h6⟩ := setCells_heap g vs o w
  intro k hk
  obtain ⟨A, n, c, c1, c2, c3⟩ := h k hk
  refine ⟨A, n, c, ?_, ?_, c3.mono ⟨by rw [h1]; exact Nat.le_refl _, fun _ _ hh => hh, fun b hb hx => h6 b (fun e => hx (by simp [e]))⟩⟩
  · rw [World.cell?_setCells_out g vs o w _ (fun _ _ => .inl (by show k < o; omega))]; exact c1
  · rw [World.frozen?_setCells]; exact c2
/-- Nothing but block g has turned. -/
structure But (g : Nat) (w w' : World) : Prop where
  low : w.grownBy w' (some g)
  draws : w.drawn ≤ w'.drawn
theorem But.refl (g : Nat) (w : World) : But g w w := ⟨World.grownBy.refl w _, Nat.le_refl _⟩
theorem But.trans {w'' : World} (h : But g w w') (k : But g w' w'') : But g w w'' :=
  ⟨⟨k.low.os.trans h.low.os, k.low.tape.trans h.low.tape, k.low.output.trans h.low.output, Nat.le_trans h.low.size k.low.size, fun i hi hne => (k.low.block i (Nat.lt_of_lt_of_le hi h.low.size) hne).trans (h.low.block i hi hne)⟩, Nat.le_trans h.draws k.draws⟩
theorem But.below (h : Below w.heap.size w w') : But g w w' := ⟨⟨h.os, h.tape, h.output, h.size, fun k hk _ => h.block k hk⟩, h.draws⟩
theorem But.set (g : Nat) (w : World) (i : Nat) (v : Value) : But g w (w.setCell ⟨g, i, none⟩ v) := ⟨⟨rfl, rfl, rfl, by simp, fun k _ hne => Below.heap_setCell w ⟨g, i, none⟩ v k (fun e => hne (by rw [e]))⟩, Nat.le_refl _⟩
theorem But.clear (g : Nat) (w : World) (o : Nat) (vs : List Value) : But g w (w.setCells g o vs) := by
  obtain ⟨h1, h2, h3, h4, h5, h6⟩ := setCells_heap g vs o w
  exact ⟨⟨h3, h4, h5, by rw [h1]; exact Nat.le_refl _, fun k _ hne => h6 k (fun e => hne (by rw [e]))⟩, by rw [h2]; exact Nat.le_refl _⟩
end

set_option maxHeartbeats 4000000 in
theorem compact_ok (w : World) (ex : List Nat) (g c : Nat) (l : List Pol) (hr : PRow w ex g l) (hg : ∀ p ∈ l, GP p) (hc : l.length ≤ c) (hl : l.length < 1000000000) :
    Calls Tryz.prog 98 #[.slice (some ⟨g, 0, none⟩) l.length c, .func (Fn.func 80) #[] #[]] w fun e w' =>
      e = .returned (.slice (some ⟨g, 0, none⟩) (compactP l).length c) ∧ But g w w' ∧ PRow w' ex g (compactP l) := by
  obtain ⟨n, hn⟩ : ∃ n, l.length = n := ⟨_, rfl⟩
  rw [hn] at hc hl ⊢
  have HN := Lib.hid hn
  have HG := Lib.hid hg
  have HR := Lib.hid hr
  have HCP : Hid (compactP l = compK l n) := Lib.hid (by unfold compactP; rw [hn])
  clear hg hr hn
  by_cases h2 : n < 2
  · have HE : Hid (compactP l = l) := by
      match l, HN.out with
      | [], _ => rfl
      | [p], _ => rfl
      | p :: q :: r, e => simp at e; omega
    go_enter Tryz.func98, Tryz.ntmps98
    go_wp2_with fail
    go_ret
    rw [HE.out, HN.out]
    exact ⟨rfl, But.refl _ _, HR.out⟩
  · go_enter Tryz.func98, Tryz.ntmps98
    go_wp2_with fail
    go_loopw [5] (fun i wr => ∃ k : Nat, 1 ≤ k ∧ k ≤ n ∧ i = .int .i64 k ∧ Hid (compK l k = l.take k) ∧ Below w.heap.size w wr) (fun i _ => n - (intOf i).toNat)
    case atStart => exact ⟨1, Nat.le_refl _, by omega, rfl, Lib.hid (compK_keep (k := 0) (by rw [HN.out]; omega) rfl (fun h => absurd h (by omega))), Below.refl _ _⟩
    case round =>
      obtain ⟨k, hk1, hk, rfl, HK, hb⟩ := hrel
      have hrw := HR.out.keep hb
      by_cases hlt : k < n
      · obtain ⟨j, hj⟩ : ∃ j, k = j + 1 := ⟨k - 1, by omega⟩
        have hkl : k < l.length := by rw [HN.out]; exact hlt
        have hjl : j < l.length := by omega
        obtain ⟨A1, m1, c1, e1, _, p1⟩ := hrw k hkl
        obtain ⟨A2, m2, c2, e2, _, p2⟩ := hrw j hjl
        have g1 := HG.out _ (List.getElem_mem hkl)
        have g2 := HG.out _ (List.getElem_mem hjl)
        have hw1 : IntKind.i64.wrap ((k : Int) - 1) = (j : Int) := by simp [IntKind.wrap, IntKind.bits, IntKind.signed]; omega
        have hi1 : (0 : Int) ≤ (j : Int) := by omega
        have hi2 : (j : Int) < (n : Int) := by omega
        have hi3 : (k : Int) < (n : Int) := by omega
        have HD : Hid (l.getD (k - 1) [] = l[j]) := Lib.hid (by rw [show k - 1 = j by omega, getD_at hjl])
        clear hj
        have hm1 : m1 ≤ 1000000000 := by rw [p1.len]; have := g1.len; omega
        have hm2 : m2 ≤ 1000000000 := by rw [p2.len]; have := g2.len; omega
        obtain ⟨z, hz⟩ : ∃ z, cmpP l[k] l[j] = z := ⟨_, rfl⟩
        have HZ := Lib.hid hz
        clear hz hrw
        by_cases h0 : z = 0
        · subst h0
          go_wp2_with fail
          go_region_held3 (fun w' => w'.cell? ⟨g, k, none⟩ = some (.slice A1 m1 c1) ∧ w'.cell? ⟨g, j, none⟩ = some (.slice A2 m2 c2))
            ((repeat' apply And.intro) <;> first | (simp [*, go_sem, ↓IntWalk.iteOmega]; done) | (refine got_of ?_; simp [*, go_sem, ↓IntWalk.iteOmega]; done))
            (first | (go_at_call 80; refine (psame_ok _ ([g] ++ ex) A1 m1 c1 l[k] A2 m2 c2 l[j] (p1.mono (Kr.of_below (by repeat first | with_reducible exact .refl .. | with_reducible assumption | refine .s ?_ ?_ | refine .m ?_ ?_ | refine .l ?_ ?_ | refine .d ?_ | refine .e ?_ | (simp <;> omega) | omega) _)) (p2.mono (Kr.of_below (by repeat first | with_reducible exact .refl .. | with_reducible assumption | refine .s ?_ ?_ | refine .m ?_ ?_ | refine .l ?_ ?_ | refine .d ?_ | refine .e ?_ | (simp <;> omega) | omega) _)) g1.ty g2.ty hm1 hm2).mono ?_; rintro e w' ⟨X1, D1, rfl, rfl⟩; rw [HZ.out]))
          all_goals (rename_i hHeldZ; clear hHeldZ)
          all_goals
            go_wp2_with fail
            have HK0 : Hid (compK l (k + 1) = l.take k) := Lib.hid (by rw [compK, if_pos ⟨hk1, by rw [getD_at hkl, HD.out]; exact HZ.out⟩]; exact HK.out)
            have hbut0 : But g w (wr.drew.more X1 D1) := But.below (hb.trans ((show Below wr.heap.size wr _ from (by repeat first | with_reducible exact .refl .. | with_reducible assumption | refine .s ?_ ?_ | refine .m ?_ ?_ | refine .l ?_ ?_ | refine .d ?_ | refine .e ?_ | (simp <;> omega) | omega)).mono hb.size))
            have hrow0 : PRow (wr.drew.more X1 D1) ex g l := HR.out.keep (hb.trans ((show Below wr.heap.size wr _ from (by repeat first | with_reducible exact .refl .. | with_reducible assumption | refine .s ?_ ?_ | refine .m ?_ ?_ | refine .l ?_ ?_ | refine .d ?_ | refine .e ?_ | (simp <;> omega) | omega)).mono hb.size))
            generalize wr.drew.more X1 D1 = W1 at *
            obtain ⟨d, hd⟩ : ∃ d, n - k = d := ⟨_, rfl⟩
            have hkd : k + d ≤ n ∧ n ≤ k + d := by omega
            have hd1 : 1 ≤ d := by omega
            rw [hd]
            clear hd p1 p2 e1 e2 hb HD HZ hw1 hi1 hi2
            go_loopw [5, 7] (fun vi vj w2 => ∃ (i j : Nat) (cur : List Pol), 1 ≤ j ∧ j ≤ d ∧ i < k + j ∧ vi = .int .i64 i ∧ vj = .int .i64 j ∧ PRow w2 ex g cur ∧ Hid (cur.length = n) ∧ Hid (cur.take i = compK l (k + j)) ∧ Hid (∀ t, i ≤ t → cur.getD t [] = l.getD t []) ∧ But g w w2) (fun _ vj _ => d - (intOf vj).toNat)
            case atStart => exact ⟨k, 1, l, Nat.le_refl _, hd1, by omega, rfl, rfl, hrow0, HN, Lib.hid HK0.out.symm, Lib.hid (fun _ _ => rfl), hbut0⟩
            case round =>
              clear hrow0 hbut0
              obtain ⟨i, j', cur, hj1, hjd, hij, rfl, rfl, hrow, HC, HT, HU, hbut⟩ := hrel
              by_cases hlt2 : j' < d
              · obtain ⟨jj, hjj⟩ : ∃ jj, j' = jj + 1 := ⟨j' - 1, by omega⟩
                have q1 : k + j' < cur.length := by rw [HC.out]; omega
                have q2 : k + jj < cur.length := by rw [HC.out]; omega
                have r1 : k + j' < l.length := by rw [HN.out]; omega
                have r2 : k + jj < l.length := by rw [HN.out]; omega
                have s1 : cur[k + j'] = l[k + j'] := by have := HU.out (k + j') (by omega); rwa [getD_at q1, getD_at r1] at this
                have s2 : cur[k + jj] = l[k + jj] := by have := HU.out (k + jj) (by omega); rwa [getD_at q2, getD_at r2] at this
                obtain ⟨A3, m3, c3, e3, _, p3⟩ := hrow (k + j') q1
                obtain ⟨A4, m4, c4, e4, _, p4⟩ := hrow (k + jj) q2
                rw [s1] at p3
                rw [s2] at p4
                have g3 := HG.out _ (List.getElem_mem r1)
                have g4 := HG.out _ (List.getElem_mem r2)
                have hw1 : IntKind.i64.wrap ((j' : Int) - 1) = (jj : Int) := by simp [IntKind.wrap, IntKind.bits, IntKind.signed]; omega
                have hi1 : (0 : Int) ≤ (jj : Int) := by omega
                have hi2 : (jj : Int) < (d : Int) := by omega
                have hi4 : (j' : Int) < (d : Int) := by omega
                have HST : Hid (compK l (k + j' + 1) = if cmpP l[k + j'] l[k + jj] = 0 then compK l (k + j') else compK l (k + j') ++ [l[k + j']]) := Lib.hid (by
                  rw [compK, getD_at r1, show k + j' - 1 = k + jj by omega, getD_at r2]
                  by_cases hz : cmpP l[k + j'] l[k + jj] = 0
                  · rw [if_pos ⟨by omega, hz⟩, if_pos hz]
                  · rw [if_neg (fun hh => hz hh.2), if_neg hz])
                clear hjj s1 s2
                have hm3 : m3 ≤ 1000000000 := by rw [p3.len]; have := g3.len; omega
                have hm4 : m4 ≤ 1000000000 := by rw [p4.len]; have := g4.len; omega
                obtain ⟨z, hz⟩ : ∃ z, cmpP l[k + j'] l[k + jj] = z := ⟨_, rfl⟩
                have HZ := Lib.hid hz
                clear hz
                have hsz2 := hbut.low.size
                by_cases h0 : z = 0
                · subst h0
                  go_wp2_with fail
                  go_region_held3 (fun w' => w'.cell? ⟨g, k + j', none⟩ = some (.slice A3 m3 c3) ∧ w'.cell? ⟨g, k + jj, none⟩ = some (.slice A4 m4 c4))
                    ((repeat' apply And.intro) <;> first | (simp [*, go_sem, ↓IntWalk.iteOmega]; done) | (refine got_of ?_; simp [*, go_sem, ↓IntWalk.iteOmega]; done))
                    (first | (go_at_call 80; refine (psame_ok _ ([g] ++ ex) A3 m3 c3 l[k + j'] A4 m4 c4 l[k + jj] (p3.mono (Kr.of_below (by repeat first | with_reducible exact .refl .. | with_reducible assumption | refine .s ?_ ?_ | refine .m ?_ ?_ | refine .l ?_ ?_ | refine .d ?_ | refine .e ?_ | (simp <;> omega) | omega) _)) (p4.mono (Kr.of_below (by repeat first | with_reducible exact .refl .. | with_reducible assumption | refine .s ?_ ?_ | refine .m ?_ ?_ | refine .l ?_ ?_ | refine .d ?_ | refine .e ?_ | (simp <;> omega) | omega) _)) g3.ty g4.ty hm3 hm4).mono ?_; rintro e w' ⟨X2, D2, rfl, rfl⟩; rw [HZ.out]))
                  all_goals (rename_i hHeldZ; clear hHeldZ)
                  all_goals
                    go_wp2_with fail
                    go_roundw
                    case rel => exact ⟨i, j' + 1, cur, by omega, by omega, by omega, rfl, by go_num, hrow.keep (by repeat first | with_reducible exact .refl .. | with_reducible assumption | refine .s ?_ ?_ | refine .m ?_ ?_ | refine .l ?_ ?_ | refine .d ?_ | refine .e ?_ | (simp <;> omega) | omega), HC, Lib.hid (by rw [← Nat.add_assoc, HST.out, if_pos HZ.out]; exact HT.out), HU, hbut.trans (But.below (by repeat first | with_reducible exact .refl .. | with_reducible assumption | refine .s ?_ ?_ | refine .m ?_ ?_ | refine .l ?_ ?_ | refine .d ?_ | refine .e ?_ | (simp <;> omega) | omega))⟩
                    case measure => simp [intOf]; omega
                · have hzb : (z == 0) = false := by simpa using h0
                  have hil : i < cur.length := by rw [HC.out]; omega
                  obtain ⟨A5, m5, c5, e5, f5, _⟩ := hrow i hil
                  go_wp2_with fail
                  go_region_held3 (fun w' => w'.cell? ⟨g, k + j', none⟩ = some (.slice A3 m3 c3) ∧ w'.cell? ⟨g, k + jj, none⟩ = some (.slice A4 m4 c4))
                    ((repeat' apply And.intro) <;> first | (simp [*, go_sem, ↓IntWalk.iteOmega]; done) | (refine got_of ?_; simp [*, go_sem, ↓IntWalk.iteOmega]; done))
                    (first | (go_at_call 80; refine (psame_ok _ ([g] ++ ex) A3 m3 c3 l[k + j'] A4 m4 c4 l[k + jj] (p3.mono (Kr.of_below (by repeat first | with_reducible exact .refl .. | with_reducible assumption | refine .s ?_ ?_ | refine .m ?_ ?_ | refine .l ?_ ?_ | refine .d ?_ | refine .e ?_ | (simp <;> omega) | omega) _)) (p4.mono (Kr.of_below (by repeat first | with_reducible exact .refl .. | with_reducible assumption | refine .s ?_ ?_ | refine .m ?_ ?_ | refine .l ?_ ?_ | refine .d ?_ | refine .e ?_ | (simp <;> omega) | omega) _)) g3.ty g4.ty hm3 hm4).mono ?_; rintro e w' ⟨X2, D2, rfl, rfl⟩; rw [HZ.out]))
                  all_goals (rename_i hHeldZ; clear hHeldZ)
                  all_goals
                    have hin : (i : Int) < (n : Int) := by omega
                    go_wp2_with fail
                    go_roundw
                    case rel =>
                      refine ⟨i + 1, j' + 1, cur.set i l[k + j'], by omega, by omega, by omega, by go_num, by go_num, PRow.set (hrow.keep (by repeat first | with_reducible exact .refl .. | with_reducible assumption | refine .s ?_ ?_ | refine .m ?_ ?_ | refine .l ?_ ?_ | refine .d ?_ | refine .e ?_ | (simp <;> omega) | omega)) hil (p3.mono (Kr.of_below (by repeat first | with_reducible exact .refl .. | with_reducible assumption | refine .s ?_ ?_ | refine .m ?_ ?_ | refine .l ?_ ?_ | refine .d ?_ | refine .e ?_ | (simp <;> omega) | omega) _)), Lib.hid (by simp [HC.out]), Lib.hid ?_, Lib.hid ?_, hbut.trans ((But.below (show Below wr.heap.size wr _ from (by repeat first | with_reducible exact .refl .. | with_reducible assumption | refine .s ?_ ?_ | refine .m ?_ ?_ | refine .l ?_ ?_ | refine .d ?_ | refine .e ?_ | (simp <;> omega) | omega))).trans (But.set _ _ _ _))⟩
                      · rw [take_set_self _ _ _ hil, HT.out, ← Nat.add_assoc, HST.out, if_neg (by rw [HZ.out]; exact h0)]
                      · intro t ht
                        rw [List.getD_eq_getElem?_getD, List.getElem?_set_ne (by omega), ← List.getD_eq_getElem?_getD]
                        exact HU.out t (by omega)
                    case measure => simp [intOf]; omega
              · obtain rfl : j' = d := by omega
                have hkn : k + j' = n := by omega
                have HF : Hid (cur.take i = compactP l) := Lib.hid (by rw [HT.out, hkn, HCP.out])
                have hin : i < n := by omega
                have hil : i ≤ cur.length := by rw [HC.out]; omega
                have hcl : ∀ ty, (Builtin.clear_ #[25] ty #[.slice (some ⟨g, i, none⟩) (n - i) (c - i)]).run Tryz.prog wr = .ok (.tuple #[]) (wr.setCells g i (List.replicate (n - i) (.slice none 0 0))) := fun ty =>
                  Lib.run_clear_slice wr _ 65 ty (.slice none 0 0) Tryz.underlying25 (fun _ => by kernel_rfl) rfl rfl g i (n - i) (c - i) (by omega)
                    (fun t ht => by obtain ⟨A, m, c', h1, h2, _⟩ := hrow (i + t) (by rw [HC.out]; omega); rw [h1]; rfl) (fun t ht => by obtain ⟨A, m, c', h1, h2, _⟩ := hrow (i + t) (by rw [HC.out]; omega); exact h2)
                have hres := (hrow.take i).clear (o := i) (by simp; omega) (List.replicate (n - i) (.slice none 0 0))
                have hb2 := hbut.trans (But.clear g wr i (List.replicate (n - i) (.slice none 0 0)))
                clear hrow hbut hkn
                have hii : (i : Int) ≤ (n : Int) := by omega
                have hic : i ≤ c := by omega
                go_wp2_with fail
                go_ret
                rw [HF.out] at hres
                refine ⟨?_, hb2, hres⟩
                rw [← HF.out, List.length_take, Nat.min_eq_left hil]
                rfl
        · have hzb : (z == 0) = false := by simpa using h0
          have HS : Hid (compK l (k + 1) = l.take (k + 1)) := compK_keep hkl HK.out (fun _ => by rw [HD.out, HZ.out]; exact h0)
          go_wp2_with fail
          go_region_held3 (fun w' => w'.cell? ⟨g, k, none⟩ = some (.slice A1 m1 c1) ∧ w'.cell? ⟨g, j, none⟩ = some (.slice A2 m2 c2))
            ((repeat' apply And.intro) <;> first | (simp [*, go_sem, ↓IntWalk.iteOmega]; done) | (refine got_of ?_; simp [*, go_sem, ↓IntWalk.iteOmega]; done))
            (first | (go_at_call 80; refine (psame_ok _ ([g] ++ ex) A1 m1 c1 l[k] A2 m2 c2 l[j] (p1.mono (Kr.of_below (by repeat first | with_reducible exact .refl .. | with_reducible assumption | refine .s ?_ ?_ | refine .m ?_ ?_ | refine .l ?_ ?_ | refine .d ?_ | refine .e ?_ | (simp <;> omega) | omega) _)) (p2.mono (Kr.of_below (by repeat first | with_reducible exact .refl .. | with_reducible assumption | refine .s ?_ ?_ | refine .m ?_ ?_ | refine .l ?_ ?_ | refine .d ?_ | refine .e ?_ | (simp <;> omega) | omega) _)) g1.ty g2.ty hm1 hm2).mono ?_; rintro e w' ⟨X1, D1, rfl, rfl⟩; rw [HZ.out]))
          all_goals (rename_i hHeldZ; clear hHeldZ)
          all_goals
            go_wp2_with fail
            go_roundw
            case rel => exact ⟨k + 1, by omega, by omega, by go_num, HS, hb.trans ((show Below wr.heap.size wr _ from (by repeat first | with_reducible exact .refl .. | with_reducible assumption | refine .s ?_ ?_ | refine .m ?_ ?_ | refine .l ?_ ?_ | refine .d ?_ | refine .e ?_ | (simp <;> omega) | omega)).mono hb.size)⟩
            case measure => simp [intOf]; omega
      · obtain rfl : k = n := by omega
        have HE : Hid (compactP l = l) := Lib.hid (by rw [HCP.out, HK.out, List.take_of_length_le (by rw [HN.out]; exact Nat.le_refl _)])
        go_wp2_with fail
        go_ret
        rw [HE.out, HN.out]
        exact ⟨rfl, But.below hb, HR.out.keep hb⟩

end Go.Proofs.YthhdleppkggepaaGreat
