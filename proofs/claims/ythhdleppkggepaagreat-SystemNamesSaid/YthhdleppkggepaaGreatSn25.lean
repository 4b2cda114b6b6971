/-
  The walk of slices.CompactFunc at a row of polynomials, by polynomial.Same.
-/
import Derived.Lib.SliceRun
import Derived.Test.YthhdleppkggepaaGreatSn24

set_option linter.unusedSimpArgs false
set_option linter.unusedVariables false
set_option linter.unusedSectionVars false

namespace Go.Proofs.YthhdleppkggepaaGreat
open Go.RowKit Go.Deep
set_option maxRecDepth 100000

abbrev Pol := List (Rat × List Int)
/-- Of each run of equal neighbours the first one, among the first j. -/
def compK (l : List Pol) : Nat → List Pol
  | 0 => []
  | j + 1 => if 0 < j ∧ cmpP (l.getD j []) (l.getD (j - 1) []) = 0 then compK l j else compK l j ++ [l.getD j []]
def compactP (l : List Pol) : List Pol := compK l l.length
theorem compK_len (l : List Pol) : ∀ j, (compK l j).length ≤ j
  | 0 => Nat.le_refl _
  | j + 1 => by
    have := compK_len l j
    unfold compK; split
    · omega
    · simp; omega
theorem getD_at {l : List Pol} {k : Nat} (hk : k < l.length) : l.getD k [] = l[k] := by simp [hk]
theorem compK_keep {l : List Pol} {k : Nat} (hk : k < l.length) (h : compK l k = l.take k) (hne : 0 < k → cmpP l[k] (l.getD (k - 1) []) ≠ 0) : compK l (k + 1) = l.take (k + 1) := by
  rw [compK, if_neg (by rintro ⟨h1, h2⟩; rw [getD_at hk] at h2; exact hne h1 h2), h, getD_at hk, List.take_succ_eq_append_getElem hk]

section
variable {w w' : World} {ex : List Nat} {g : Nat} {l : List Pol}
theorem PRow.keep (h : PRow w ex g l) (hb : Below w.heap.size w w') : PRow w' ex g l := by
  intro k hk
  obtain ⟨A, n, c, h1, h2, h3⟩ := h k hk
  have hlt := World.block_lt_of_cell? w _ h1
  exact ⟨A, n, c, (World.cell?_of_block (w := w) (hb.block _ hlt)).trans h1, (World.frozen?_of_block (w := w) (hb.block _ hlt)).trans h2, h3.mono (Kr.of_below hb _)⟩
theorem PRow.set (h : PRow w ex g l) {i : Nat} (hi : i < l.length) {A : Option Addr} {n c : Nat} {p : Pol} (hp : RP w ([g] ++ ex) A n c p) : PRow (w.setCell ⟨g, i, none⟩ (.slice A n c)) ex g (l.set i p) := by
  have hk : Kr w ([g] ++ ex) (w.setCell ⟨g, i, none⟩ (.slice A n c)) ([g] ++ ex) := (Kr.refl _ _).setCell _ (by simp)
  intro k hkl
  have hkl' : k < l.length := by simpa using hkl
  obtain ⟨A', n', c', h1, h2, h3⟩ := h k hkl'
  by_cases e : k = i
  · subst e
    refine ⟨A, n, c, ?_, ?_, ?_⟩
    · rw [World.cell?_setCell_same w _ _ h1]
    · rw [World.frozen?_setCell]; exact h2
    · rw [List.getElem_set_self]; exact hp.mono hk
  · refine ⟨A', n', c', ?_, ?_, ?_⟩
    · rw [World.cell?_setCell_other w _ _ _ (fun hh => e (by injection hh with _ h5 _; exact h5.symm))]; exact h1
    · rw [World.frozen?_setCell]; exact h2
    · rw [List.getElem_set_ne (fun hh => e hh.symm)]; exact h3.mono hk
theorem PRow.take (h : PRow w ex g l) (m : Nat) : PRow w ex g (l.take m) := by
  intro k hk
  simp only [List.length_take] at hk
  obtain ⟨A, n, c, h1, h2, h3⟩ := h k (by omega)
  exact ⟨A, n, c, h1, h2, by rw [List.getElem_take]; exact h3⟩
theorem setCells_heap (b : Nat) : ∀ (vs : List Value) (o : Nat) (w : World), (w.setCells b o vs).heap.size = w.heap.size ∧ (w.setCells b o vs).drawn = w.drawn ∧ (w.setCells b o vs).os = w.os ∧ (w.setCells b o vs).tape = w.tape ∧ (w.setCells b o vs).output = w.output ∧ ∀ k, k ≠ b → (w.setCells b o vs).heap[k]? = w.heap[k]?
  | [], o, w => ⟨rfl, rfl, rfl, rfl, rfl, fun _ _ => rfl⟩
  | v :: vs, o, w => by
    obtain ⟨h1, h2, h3, h4, h5, h6⟩ := setCells_heap b vs (o + 1) (w.setCell ⟨b, o, none⟩ v)
    exact ⟨by rw [World.setCells, h1]; simp [World.setCell], h2, h3, h4, h5, fun k hk => (h6 k hk).trans (Below.heap_setCell w ⟨b, o, none⟩ v k hk)⟩
theorem PRow.clear (h : PRow w ex g l) {o : Nat} (ho : l.length ≤ o) (vs : List Value) : PRow (w.setCells g o vs) ex g l := by
  obtain ⟨h1, h2, h3, h4, h5, h6⟩ := setCells_heap g vs o w
  intro k hk
  obtain ⟨A, n, c, c1, c2, c3⟩ := h k hk
  refine ⟨A, n, c, ?_, ?_, c3.mono ⟨by rw [h1]; exact Nat.le_refl _, fun _ _ hh => hh, fun b hb hx => h6 b (fun e => hx (by simp [e]))⟩⟩
  · rw [World.cell?_setCells_out g vs o w _ (fun _ _ => .inl (by show k < o; omega))]; exact c1
  · rw [World.frozen?_setCells]; exact c2
/-- Nothing but block g has turned. -/
structure But (g : Nat) (w w' : World) : Prop where
  low : w.grownBy w' (some g)
  draws : w.drawn ≤ w'.drawn
theorem But.refl (g : Nat) (w : World) : But g w w := ⟨World.grownBy.refl w _, Nat.le_refl _⟩
theorem But.trans {w'' : World} (h : But g w w') (k : But g w' w'') : But g w w'' :=
  ⟨⟨k.low.os.trans h.low.os, k.low.tape.trans h.low.tape, k.low.output.trans h.low.output, Nat.le_trans h.low.size k.low.size, fun i hi hne => (k.low.block i (Nat.lt_of_lt_of_le hi h.low.size) hne).trans (h.low.block i hi hne)⟩, Nat.le_trans h.draws k.draws⟩
theorem But.below (h : Below w.heap.size w w') : But g w w' := ⟨⟨h.os, h.tape, h.output, h.size, fun k hk _ => h.block k hk⟩, h.draws⟩
theorem But.set (g : Nat) (w : World) (i : Nat) (v : Value) : But g w (w.setCell ⟨g, i, none⟩ v) := ⟨⟨rfl, rfl, rfl, by simp, fun k _ hne => Below.heap_setCell w ⟨g, i, none⟩ v k (fun e => hne (by rw [e]))⟩, Nat.le_refl _⟩
theorem But.clear (g : Nat) (w : World) (o : Nat) (vs : List Value) : But g w (w.setCells g o vs) := by
  obtain ⟨h1, h2, h3, h4, h5, h6⟩ := setCells_heap g vs o w
  exact ⟨⟨h3, h4, h5, by rw [h1]; exact Nat.le_refl _, fun k _ hne => h6 k (fun e => hne (by rw [e]))⟩, by rw [h2]; exact Nat.le_refl _⟩
end

set_option maxHeartbeats 4000000 in
theorem compact_ok (w : World) (ex : List Nat) (g c : Nat) (l : List Pol) (hr : PRow w ex g l) (hg : ∀ p ∈ l, GP p) (hc : l.length ≤ c) (hl : l.length < 1000000000) :
    Calls Tryz.prog 98 #[.slice (some ⟨g, 0, none⟩) l.length c, .func (Fn.func 80) #[] #[]] w fun e w' =>
      e = .returned (.slice (some ⟨g, 0, none⟩) (compactP l).length c) ∧ But g w w' ∧ PRow w' ex g (compactP l) := by
  obtain ⟨n, hn⟩ : ∃ n, l.length = n := ⟨_, rfl⟩
  rw [hn] at hc hl ⊢
  have HN := Lib.hid hn
  have HG := Lib.hid hg
  have HR := Lib.hid hr
  have HCP : Hid (compactP l = compK l n) := Lib.hid (by unfold compactP; rw [hn])
  clear hg hr hn
  by_cases h2 : n < 2
  · have HE : Hid (compactP l = l) := by
      match l, HN.out with
      | [], _ => rfl
      | [p], _ => rfl
      | p :: q :: r, e => simp at e; omega
    go_enter Tryz.func98, Tryz.ntmps98
    go_wp2_with fail
    go_ret
    rw [HE.out, HN.out]
    exact ⟨rfl, But.refl _ _, HR.out⟩
  · go_enter Tryz.func98, Tryz.ntmps98
    go_wp2_with fail
    go_loopw [5] (fun i wr => ∃ k : Nat, 1 ≤ k ∧ k ≤ n ∧ i = .int .i64 k ∧ Hid (compK l k = l.take k) ∧ Below w.heap.size w wr) (fun i _ => n - (intOf i).toNat)
    case atStart => exact ⟨1, Nat.le_refl _, by omega, rfl, Lib.hid (compK_keep (k := 0) (by rw [HN.out]; omega) rfl (fun h => absurd h (by omega))), Below.refl _ _⟩
    case round =>
      obtain ⟨k, hk1, hk, rfl, HK, hb⟩ := hrel
      have hrw := HR.out.keep hb
      by_cases hlt : k < n
      · obtain ⟨j, hj⟩ : ∃ j, k = j + 1 := ⟨k - 1, by omega⟩
        have hkl : k < l.length := by rw [HN.out]; exact hlt
        have hjl : j < l.length := by omega
        obtain ⟨A1, m1, c1, e1, _, p1⟩ := hrw k hkl
        obtain ⟨A2, m2, c2, e2, _, p2⟩ := hrw j hjl
        have g1 := HG.out _ (List.getElem_mem hkl)
        have g2 := HG.out _ (List.getElem_mem hjl)
        have hw1 : IntKind.i64.wrap ((k : Int) - 1) = (j : Int) := by simp [IntKind.wrap, IntKind.bits, IntKind.signed]; omega
        have hi1 : (0 : Int) ≤ (j : Int) := by omega
        have hi2 : (j : Int) < (n : Int) := by omega
        have hi3 : (k : Int) < (n : Int) := by omega
        have HD : Hid (l.getD (k - 1) [] = l[j]) := Lib.hid (by rw [show k - 1 = j by omega, getD_at hjl])
        clear hj
        have hm1 : m1 ≤ 1000000000 := by rw [p1.len]; have := g1.len; omega
        have hm2 : m2 ≤ 1000000000 := by rw [p2.len]; have := g2.len; omega
        obtain ⟨z, hz⟩ : ∃ z, cmpP l[k] l[j] = z := ⟨_, rfl⟩
        have HZ := Lib.hid hz
        clear hz hrw
        by_cases h0 : z = 0
        · subst h0
          go_wp2_with fail
          go_region_held3 (fun w' => w'.cell? ⟨g, k, none⟩ = some (.slice A1 m1 c1) ∧ w'.cell? ⟨g, j, none⟩ = some (.slice A2 m2 c2))
            ((repeat' apply And.intro) <;> first | (simp [*, go_sem, ↓IntWalk.iteOmega]; done) | (refine got_of ?_; simp [*, go_sem, ↓IntWalk.iteOmega]; done))
            (first | (go_at_call 80; refine (psame_ok _ ([g] ++ ex) A1 m1 c1 l[k] A2 m2 c2 l[j] (p1.mono (Kr.of_below (by repeat (first | (with_reducible exact Below.refl _ _) | (with_reducible assumption) | refine Below.setCell ?_ (by first | (simp; done) | (simp; omega) | omega) _ | refine Below.more ?_ (by first | (simp; done) | (simp; omega) | omega) _ _ | refine Below.alloc ?_ (by first | (simp; done) | (simp; omega) | omega) _ | refine Below.drew ?_ | refine Below.drewN ?_ _)) _)) (p2.mono (Kr.of_below (by repeat (first | (with_reducible exact Below.refl _ _) | (with_reducible assumption) | refine Below.setCell ?_ (by first | (simp; done) | (simp; omega) | omega) _ | refine Below.more ?_ (by first | (simp; done) | (simp; omega) | omega) _ _ | refine Below.alloc ?_ (by first | (simp; done) | (simp; omega) | omega) _ | refine Below.drew ?_ | refine Below.drewN ?_ _)) _)) g1.ty g2.ty hm1 hm2).mono ?_; rintro e w' ⟨X1, D1, rfl, rfl⟩; rw [HZ.out]))
          all_goals (rename_i hHeldZ; clear hHeldZ)
          all_goals
            go_wp2_with fail
            have HK0 : Hid (compK l (k + 1) = l.take k) := Lib.hid (by rw [compK, if_pos ⟨hk1, by rw [getD_at hkl, HD.out]; exact HZ.out⟩]; exact HK.out)
            have hbut0 : But g w (wr.drew.more X1 D1) := But.below (hb.trans ((show Below wr.heap.size wr _ from (by repeat (first | (with_reducible exact Below.refl _ _) | (with_reducible assumption) | refine Below.setCell ?_ (by first | (simp; done) | (simp; omega) | omega) _ | refine Below.more ?_ (by first | (simp; done) | (simp; omega) | omega) _ _ | refine Below.alloc ?_ (by first | (simp; done) | (simp; omega) | omega) _ | refine Below.drew ?_ | refine Below.drewN ?_ _))).mono hb.size))
            have hrow0 : PRow (wr.drew.more X1 D1) ex g l := HR.out.keep (hb.trans ((show Below wr.heap.size wr _ from (by repeat (first | (with_reducible exact Below.refl _ _) | (with_reducible assumption) | refine Below.setCell ?_ (by first | (simp; done) | (simp; omega) | omega) _ | refine Below.more ?_ (by first | (simp; done) | (simp; omega) | omega) _ _ | refine Below.alloc ?_ (by first | (simp; done) | (simp; omega) | omega) _ | refine Below.drew ?_ | refine Below.drewN ?_ _))).mono hb.size))
            generalize wr.drew.more X1 D1 = W1 at *
            obtain ⟨d, hd⟩ : ∃ d, n - k = d := ⟨_, rfl⟩
            have hkd : k + d ≤ n ∧ n ≤ k + d := by omega
            have hd1 : 1 ≤ d := by omega
            rw [hd]
            clear hd p1 p2 e1 e2 hb HD HZ hw1 hi1 hi2
            go_loopw [5, 7] (fun vi vj w2 => ∃ (i j : Nat) (cur : List Pol), 1 ≤ j ∧ j ≤ d ∧ i < k + j ∧ vi = .int .i64 i ∧ vj = .int .i64 j ∧ PRow w2 ex g cur ∧ Hid (cur.length = n) ∧ Hid (cur.take i = compK l (k + j)) ∧ Hid (∀ t, i ≤ t → cur.getD t [] = l.getD t []) ∧ But g w w2) (fun _ vj _ => d - (intOf vj).toNat)
            case atStart => exact ⟨k, 1, l, Nat.le_refl _, hd1, by omega, rfl, rfl, hrow0, HN, Lib.hid HK0.out.symm, Lib.hid (fun _ _ => rfl), hbut0⟩
            case round =>
              clear hrow0 hbut0
              obtain ⟨i, j', cur, hj1, hjd, hij, rfl, rfl, hrow, HC, HT, HU, hbut⟩ := hrel
              by_cases hlt2 : j' < d
              · obtain ⟨jj, hjj⟩ : ∃ jj, j' = jj + 1 := ⟨j' - 1, by omega⟩
                have q1 : k + j' < cur.length := by rw [HC.out]; omega
                have q2 : k + jj < cur.length := by rw [HC.out]; omega
                have r1 : k + j' < l.length := by rw [HN.out]; omega
                have r2 : k + jj < l.length := by rw [HN.out]; omega
                have s1 : cur[k + j'] = l[k + j'] := by have := HU.out (k + j') (by omega); rwa [getD_at q1, getD_at r1] at this
                have s2 : cur[k + jj] = l[k + jj] := by have := HU.out (k + jj) (by omega); rwa [getD_at q2, getD_at r2] at this
                obtain ⟨A3, m3, c3, e3, _, p3⟩ := hrow (k + j') q1
                obtain ⟨A4, m4, c4, e4, _, p4⟩ := hrow (k + jj) q2
                rw [s1] at p3
                rw [s2] at p4
                have g3 := HG.out _ (List.getElem_mem r1)
                have g4 := HG.out _ (List.getElem_mem r2)
                have hw1 : IntKind.i64.wrap ((j' : Int) - 1) = (jj : Int) := by simp [IntKind.wrap, IntKind.bits, IntKind.signed]; omega
                have hi1 : (0 : Int) ≤ (jj : Int) := by omega
                have hi2 : (jj : Int) < (d : Int) := by omega
                have hi4 : (j' : Int) < (d : Int) := by omega
                have HST : Hid (compK l (k + j' + 1) = if cmpP l[k + j'] l[k + jj] = 0 then compK l (k + j') else compK l (k + j') ++ [l[k + j']]) := Lib.hid (by
                  rw [compK, getD_at r1, show k + j' - 1 = k + jj by omega, getD_at r2]
                  by_cases hz : cmpP l[k + j'] l[k + jj] = 0
                  · rw [if_pos ⟨by omega, hz⟩, if_pos hz]
                  · rw [if_neg (fun hh => hz hh.2), if_neg hz])
                clear hjj s1 s2
                have hm3 : m3 ≤ 1000000000 := by rw [p3.len]; have := g3.len; omega
                have hm4 : m4 ≤ 1000000000 := by rw [p4.len]; have := g4.len; omega
                obtain ⟨z, hz⟩ : ∃ z, cmpP l[k + j'] l[k + jj] = z := ⟨_, rfl⟩
                have HZ := Lib.hid hz
                clear hz
                have hsz2 := hbut.low.size
                by_cases h0 : z = 0
                · subst h0
                  go_wp2_with fail
                  go_region_held3 (fun w' => w'.cell? ⟨g, k + j', none⟩ = some (.slice A3 m3 c3) ∧ w'.cell? ⟨g, k + jj, none⟩ = some (.slice A4 m4 c4))
                    ((repeat' apply And.intro) <;> first | (simp [*, go_sem, ↓IntWalk.iteOmega]; done) | (refine got_of ?_; simp [*, go_sem, ↓IntWalk.iteOmega]; done))
                    (first | (go_at_call 80; refine (psame_ok _ ([g] ++ ex) A3 m3 c3 l[k + j'] A4 m4 c4 l[k + jj] (p3.mono (Kr.of_below (by repeat (first | (with_reducible exact Below.refl _ _) | (with_reducible assumption) | refine Below.setCell ?_ (by first | (simp; done) | (simp; omega) | omega) _ | refine Below.more ?_ (by first | (simp; done) | (simp; omega) | omega) _ _ | refine Below.alloc ?_ (by first | (simp; done) | (simp; omega) | omega) _ | refine Below.drew ?_ | refine Below.drewN ?_ _)) _)) (p4.mono (Kr.of_below (by repeat (first | (with_reducible exact Below.refl _ _) | (with_reducible assumption) | refine Below.setCell ?_ (by first | (simp; done) | (simp; omega) | omega) _ | refine Below.more ?_ (by first | (simp; done) | (simp; omega) | omega) _ _ | refine Below.alloc ?_ (by first | (simp; done) | (simp; omega) | omega) _ | refine Below.drew ?_ | refine Below.drewN ?_ _)) _)) g3.ty g4.ty hm3 hm4).mono ?_; rintro e w' ⟨X2, D2, rfl, rfl⟩; rw [HZ.out]))
                  all_goals (rename_i hHeldZ; clear hHeldZ)
                  all_goals
                    go_wp2_with fail
                    go_roundw
                    case rel => exact ⟨i, j' + 1, cur, by omega, by omega, by omega, rfl, by go_num, hrow.keep (by repeat (first | (with_reducible exact Below.refl _ _) | (with_reducible assumption) | refine Below.setCell ?_ (by first | (simp; done) | (simp; omega) | omega) _ | refine Below.more ?_ (by first | (simp; done) | (simp; omega) | omega) _ _ | refine Below.alloc ?_ (by first | (simp; done) | (simp; omega) | omega) _ | refine Below.drew ?_ | refine Below.drewN ?_ _)), HC, Lib.hid (by rw [← Nat.add_assoc, HST.out, if_pos HZ.out]; exact HT.out), HU, hbut.trans (But.below (by repeat (first | (with_reducible exact Below.refl _ _) | (with_reducible assumption) | refine Below.setCell ?_ (by first | (simp; done) | (simp; omega) | omega) _ | refine Below.more ?_ (by first | (simp; done) | (simp; omega) | omega) _ _ | refine Below.alloc ?_ (by first | (simp; done) | (simp; omega) | omega) _ | refine Below.drew ?_ | refine Below.drewN ?_ _)))⟩
                    case measure => simp [intOf]; omega
                · have hzb : (z == 0) = false := by simpa using h0
                  have hil : i < cur.length := by rw [HC.out]; omega
                  obtain ⟨A5, m5, c5, e5, f5, _⟩ := hrow i hil
                  go_wp2_with fail
                  go_region_held3 (fun w' => w'.cell? ⟨g, k + j', none⟩ = some (.slice A3 m3 c3) ∧ w'.cell? ⟨g, k + jj, none⟩ = some (.slice A4 m4 c4))
                    ((repeat' apply And.intro) <;> first | (simp [*, go_sem, ↓IntWalk.iteOmega]; done) | (refine got_of ?_; simp [*, go_sem, ↓IntWalk.iteOmega]; done))
                    (first | (go_at_call 80; refine (psame_ok _ ([g] ++ ex) A3 m3 c3 l[k + j'] A4 m4 c4 l[k + jj] (p3.mono (Kr.of_below (by repeat (first | (with_reducible exact Below.refl _ _) | (with_reducible assumption) | refine Below.setCell ?_ (by first | (simp; done) | (simp; omega) | omega) _ | refine Below.more ?_ (by first | (simp; done) | (simp; omega) | omega) _ _ | refine Below.alloc ?_ (by first | (simp; done) | (simp; omega) | omega) _ | refine Below.drew ?_ | refine Below.drewN ?_ _)) _)) (p4.mono (Kr.of_below (by repeat (first | (with_reducible exact Below.refl _ _) | (with_reducible assumption) | refine Below.setCell ?_ (by first | (simp; done) | (simp; omega) | omega) _ | refine Below.more ?_ (by first | (simp; done) | (simp; omega) | omega) _ _ | refine Below.alloc ?_ (by first | (simp; done) | (simp; omega) | omega) _ | refine Below.drew ?_ | refine Below.drewN ?_ _)) _)) g3.ty g4.ty hm3 hm4).mono ?_; rintro e w' ⟨X2, D2, rfl, rfl⟩; rw [HZ.out]))
                  all_goals (rename_i hHeldZ; clear hHeldZ)
                  all_goals
                    have hin : (i : Int) < (n : Int) := by omega
                    go_wp2_with fail
                    go_roundw
                    case rel =>
                      refine ⟨i + 1, j' + 1, cur.set i l[k + j'], by omega, by omega, by omega, by go_num, by go_num, PRow.set (hrow.keep (by repeat (first | (with_reducible exact Below.refl _ _) | (with_reducible assumption) | refine Below.setCell ?_ (by first | (simp; done) | (simp; omega) | omega) _ | refine Below.more ?_ (by first | (simp; done) | (simp; omega) | omega) _ _ | refine Below.alloc ?_ (by first | (simp; done) | (simp; omega) | omega) _ | refine Below.drew ?_ | refine Below.drewN ?_ _))) hil (p3.mono (Kr.of_below (by repeat (first | (with_reducible exact Below.refl _ _) | (with_reducible assumption) | refine Below.setCell ?_ (by first | (simp; done) | (simp; omega) | omega) _ | refine Below.more ?_ (by first | (simp; done) | (simp; omega) | omega) _ _ | refine Below.alloc ?_ (by first | (simp; done) | (simp; omega) | omega) _ | refine Below.drew ?_ | refine Below.drewN ?_ _)) _)), Lib.hid (by simp [HC.out]), Lib.hid ?_, Lib.hid ?_, hbut.trans ((But.below (show Below wr.heap.size wr _ from (by repeat (first | (with_reducible exact Below.refl _ _) | (with_reducible assumption) | refine Below.setCell ?_ (by first | (simp; done) | (simp; omega) | omega) _ | refine Below.more ?_ (by first | (simp; done) | (simp; omega) | omega) _ _ | refine Below.alloc ?_ (by first | (simp; done) | (simp; omega) | omega) _ | refine Below.drew ?_ | refine Below.drewN ?_ _)))).trans (But.set _ _ _ _))⟩
                      · rw [take_set_self _ _ _ hil, HT.out, ← Nat.add_assoc, HST.out, if_neg (by rw [HZ.out]; exact h0)]
                      · intro t ht
                        rw [List.getD_eq_getElem?_getD, List.getElem?_set_ne (by omega), ← List.getD_eq_getElem?_getD]
                        exact HU.out t (by omega)
                    case measure => simp [intOf]; omega
              · obtain rfl : j' = d := by omega
                have hkn : k + j' = n := by omega
                have HF : Hid (cur.take i = compactP l) := Lib.hid (by rw [HT.out, hkn, HCP.out])
                have hin : i < n := by omega
                have hil : i ≤ cur.length := by rw [HC.out]; omega
                have hcl : ∀ ty, (Builtin.clear_ #[25] ty #[.slice (some ⟨g, i, none⟩) (n - i) (c - i)]).run Tryz.prog wr = .ok (.tuple #[]) (wr.setCells g i (List.replicate (n - i) (.slice none 0 0))) := fun ty =>
                  Lib.run_clear_slice wr _ 65 ty (.slice none 0 0) Tryz.underlying25 (fun _ => by kernel_rfl) rfl rfl g i (n - i) (c - i) (by omega)
                    (fun t ht => by obtain ⟨A, m, c', h1, h2, _⟩ := hrow (i + t) (by rw [HC.out]; omega); rw [h1]; rfl) (fun t ht => by obtain ⟨A, m, c', h1, h2, _⟩ := hrow (i + t) (by rw [HC.out]; omega); exact h2)
                have hres := (hrow.take i).clear (o := i) (by simp; omega) (List.replicate (n - i) (.slice none 0 0))
                have hb2 := hbut.trans (But.clear g wr i (List.replicate (n - i) (.slice none 0 0)))
                clear hrow hbut hkn
                have hii : (i : Int) ≤ (n : Int) := by omega
                have hic : i ≤ c := by omega
                go_wp2_with fail
                go_ret
                rw [HF.out] at hres
                refine ⟨?_, hb2, hres⟩
                rw [← HF.out, List.length_take, Nat.min_eq_left hil]
                rfl
        · have hzb : (z == 0) = false := by simpa using h0
          have HS : Hid (compK l (k + 1) = l.take (k + 1)) := compK_keep hkl HK.out (fun _ => by rw [HD.out, HZ.out]; exact h0)
          go_wp2_with fail
          go_region_held3 (fun w' => w'.cell? ⟨g, k, none⟩ = some (.slice A1 m1 c1) ∧ w'.cell? ⟨g, j, none⟩ = some (.slice A2 m2 c2))
            ((repeat' apply And.intro) <;> first | (simp [*, go_sem, ↓IntWalk.iteOmega]; done) | (refine got_of ?_; simp [*, go_sem, ↓IntWalk.iteOmega]; done))
            (first | (go_at_call 80; refine (psame_ok _ ([g] ++ ex) A1 m1 c1 l[k] A2 m2 c2 l[j] (p1.mono (Kr.of_below (by repeat (first | (with_reducible exact Below.refl _ _) | (with_reducible assumption) | refine Below.setCell ?_ (by first | (simp; done) | (simp; omega) | omega) _ | refine Below.more ?_ (by first | (simp; done) | (simp; omega) | omega) _ _ | refine Below.alloc ?_ (by first | (simp; done) | (simp; omega) | omega) _ | refine Below.drew ?_ | refine Below.drewN ?_ _)) _)) (p2.mono (Kr.of_below (by repeat (first | (with_reducible exact Below.refl _ _) | (with_reducible assumption) | refine Below.setCell ?_ (by first | (simp; done) | (simp; omega) | omega) _ | refine Below.more ?_ (by first | (simp; done) | (simp; omega) | omega) _ _ | refine Below.alloc ?_ (by first | (simp; done) | (simp; omega) | omega) _ | refine Below.drew ?_ | refine Below.drewN ?_ _)) _)) g1.ty g2.ty hm1 hm2).mono ?_; rintro e w' ⟨X1, D1, rfl, rfl⟩; rw [HZ.out]))
          all_goals (rename_i hHeldZ; clear hHeldZ)
          all_goals
            go_wp2_with fail
            go_roundw
            case rel => exact ⟨k + 1, by omega, by omega, by go_num, HS, hb.trans ((show Below wr.heap.size wr _ from (by repeat (first | (with_reducible exact Below.refl _ _) | (with_reducible assumption) | refine Below.setCell ?_ (by first | (simp; done) | (simp; omega) | omega) _ | refine Below.more ?_ (by first | (simp; done) | (simp; omega) | omega) _ _ | refine Below.alloc ?_ (by first | (simp; done) | (simp; omega) | omega) _ | refine Below.drew ?_ | refine Below.drewN ?_ _))).mono hb.size)⟩
            case measure => simp [intOf]; omega
      · obtain rfl : k = n := by omega
        have HE : Hid (compactP l = l) := Lib.hid (by rw [HCP.out, HK.out, List.take_of_length_le (by rw [HN.out]; exact Nat.le_refl _)])
        go_wp2_with fail
        go_ret
        rw [HE.out, HN.out]
        exact ⟨rfl, But.below hb, HR.out.keep hb⟩

end Go.Proofs.YthhdleppkggepaaGreat

/-
  Plain laws of sorted lists of polynomials without repetitions.
-/
namespace Go.Proofs.YthhdleppkggepaaGreat

def StrictP (l : List Pol) : Prop := l.Pairwise (fun p q => cmpP p q < 0)
theorem cmpP_asymm {p q : Pol} (h1 : cmpP p q < 0) (h2 : cmpP q p < 0) : False := by rw [cmpP_swap] at h2; omega
theorem cmpP_irrefl {p : Pol} (h : cmpP p p < 0) : False := by rw [cmpP_self] at h; omega
theorem strict_ext : ∀ {a b : List Pol}, StrictP a → StrictP b → (∀ x, x ∈ a ↔ x ∈ b) → a = b
  | [], [], _, _, _ => rfl
  | [], y :: b, _, _, h => by have := (h y).2 List.mem_cons_self; cases this
  | x :: a, [], _, _, h => by have := (h x).1 List.mem_cons_self; cases this
  | x :: a, y :: b, ha, hb, h => by
    obtain ⟨a1, a2⟩ := List.pairwise_cons.1 ha
    obtain ⟨b1, b2⟩ := List.pairwise_cons.1 hb
    have hxy : x = y := by
      rcases List.mem_cons.1 ((h x).1 List.mem_cons_self) with e | e
      · exact e
      · rcases List.mem_cons.1 ((h y).2 List.mem_cons_self) with e2 | e2
        · exact e2.symm
        · exact (cmpP_asymm (b1 x e) (a1 y e2)).elim
    subst hxy
    rw [strict_ext a2 b2 (fun z => ?_)]
    constructor
    · intro hz
      rcases List.mem_cons.1 ((h z).1 (List.mem_cons_of_mem _ hz)) with e | e
      · subst e; exact (cmpP_irrefl (a1 _ hz)).elim
      · exact e
    · intro hz
      rcases List.mem_cons.1 ((h z).2 (List.mem_cons_of_mem _ hz)) with e | e
      · subst e; exact (cmpP_irrefl (b1 _ hz)).elim
      · exact e

/-! ### taking out equal neighbours -/
theorem mem_compK {l : List Pol} (h8 : ∀ p ∈ l, Len8 p) : ∀ j, j ≤ l.length → ∀ x, x ∈ compK l j ↔ x ∈ l.take j
  | 0, _, x => by simp [compK]
  | j + 1, hj, x => by
    have ih := mem_compK h8 j (by omega)
    have hjl : j < l.length := by omega
    rw [compK, List.take_succ_eq_append_getElem hjl, getD_at hjl]
    split
    · rename_i hc
      obtain ⟨h0, hc⟩ := hc
      have hj1 : j - 1 < l.length := by omega
      rw [getD_at hj1] at hc
      have he := cmpP_zero (h8 _ (List.getElem_mem hjl)) (h8 _ (List.getElem_mem hj1)) hc
      rw [ih x, List.mem_append]
      constructor
      · exact Or.inl
      · rintro (h | h)
        · exact h
        · rw [List.mem_singleton.1 h, he]
          exact List.mem_take_iff_getElem.2 ⟨j - 1, by omega, rfl⟩
    · rw [List.mem_append, List.mem_append, ih x]
theorem strict_compK {l : List Pol} (h8 : ∀ p ∈ l, Len8 p) (hs : l.Pairwise (fun p q => ¬ cmpP q p < 0)) : ∀ j, j ≤ l.length → StrictP (compK l j)
  | 0, _ => List.Pairwise.nil
  | j + 1, hj => by
    have ih := strict_compK h8 hs j (by omega)
    have hjl : j < l.length := by omega
    rw [compK, getD_at hjl]
    split
    · exact ih
    · rename_i hc
      refine List.pairwise_append.2 ⟨ih, List.pairwise_singleton _ _, fun x hx y hy => ?_⟩
      rw [List.mem_singleton.1 hy]
      obtain ⟨i, hi, rfl⟩ := List.mem_take_iff_getElem.1 ((mem_compK h8 j (by omega) x).1 hx)
      have hij : i < j := by omega
      have hil : i < l.length := by omega
      have h1 := List.pairwise_iff_getElem.1 hs i j hil hjl hij
      rcases cmpP_cases l[i] l[j] with e | e | e
      · omega
      · exfalso
        have he := cmpP_zero (h8 _ (List.getElem_mem hil)) (h8 _ (List.getElem_mem hjl)) e
        have hj1 : j - 1 < l.length := by omega
        have h2 := List.pairwise_iff_getElem.1 hs (j - 1) j hj1 hjl (by omega)
        apply hc
        refine ⟨by omega, ?_⟩
        rw [getD_at hj1]
        rcases Nat.lt_or_ge i (j - 1) with hlt | hge
        · have h3 := List.pairwise_iff_getElem.1 hs i (j - 1) hil hj1 hlt
          rw [he] at h3
          rw [cmpP_swap] at h2
          rw [cmpP_swap] at h3
          have := cmpP_swap l[j - 1] l[j]
          omega
        · have : i = j - 1 := by omega
          subst this
          rw [cmpP_swap, e]; rfl
      · rw [cmpP_swap, e] at h1; omega

/-! ### insertion -/
def insP (p : Pol) : List Pol → List Pol
  | [] => [p]
  | q :: r => if cmpP q p < 0 then q :: insP p r else if cmpP q p = 0 then q :: r else p :: q :: r
theorem mem_insP {p : Pol} (hp : Len8 p) : ∀ {l : List Pol}, (∀ q ∈ l, Len8 q) → ∀ x, x ∈ insP p l ↔ x = p ∨ x ∈ l
  | [], _, x => by simp [insP]
  | q :: r, h8, x => by
    have ih := mem_insP hp (l := r) (fun z hz => h8 z (List.mem_cons_of_mem _ hz)) x
    unfold insP
    split
    · rw [List.mem_cons, ih, List.mem_cons]
      constructor
      · rintro (h | h | h)
        · exact .inr (.inl h)
        · exact .inl h
        · exact .inr (.inr h)
      · rintro (h | h | h)
        · exact .inr (.inl h)
        · exact .inl h
        · exact .inr (.inr h)
    · split
      · rename_i _ h0
        have he := cmpP_zero (h8 q List.mem_cons_self) hp h0
        rw [← he]
        constructor
        · exact .inr
        · rintro (h | h)
          · rw [h]; exact List.mem_cons_self
          · exact h
      · rw [List.mem_cons]
theorem strict_insP {p : Pol} (hp : Len8 p) : ∀ {l : List Pol}, (∀ q ∈ l, Len8 q) → StrictP l → StrictP (insP p l)
  | [], _, _ => List.pairwise_singleton _ _
  | q :: r, h8, hs => by
    have h8r : ∀ z ∈ r, Len8 z := fun z hz => h8 z (List.mem_cons_of_mem _ hz)
    obtain ⟨h1, h2⟩ := List.pairwise_cons.1 hs
    unfold insP
    split
    · rename_i hlt
      refine List.pairwise_cons.2 ⟨fun z hz => ?_, strict_insP hp h8r h2⟩
      rcases (mem_insP hp h8r z).1 hz with e | e
      · rw [e]; exact hlt
      · exact h1 z e
    · split
      · exact hs
      · rename_i hn h0
        have hpq : cmpP p q < 0 := by rw [cmpP_swap]; rcases cmpP_cases q p with e | e | e <;> omega
        refine List.pairwise_cons.2 ⟨fun z hz => ?_, hs⟩
        rcases List.mem_cons.1 hz with e | e
        · rw [e]; exact hpq
        · exact cmpP_trans hp (h8 q List.mem_cons_self) (h8r z e) hpq (h1 z e)
/-- A list sorted, without repetitions. -/
def sortD (m : List Pol) : List Pol := m.foldl (fun out p => insP p out) []
theorem sortD_aux (m : List Pol) (h8 : ∀ p ∈ m, Len8 p) : ∀ (out : List Pol), (∀ p ∈ out, Len8 p) → StrictP out →
    (∀ p ∈ m.foldl (fun out p => insP p out) out, Len8 p) ∧ StrictP (m.foldl (fun out p => insP p out) out) ∧ ∀ x, x ∈ m.foldl (fun out p => insP p out) out ↔ x ∈ m ∨ x ∈ out := by
  induction m with
  | nil => intro out h1 h2; exact ⟨h1, h2, fun x => by simp⟩
  | cons p r ih =>
    intro out h1 h2
    have hp := h8 p List.mem_cons_self
    have hm := mem_insP hp h1
    obtain ⟨a, b, c⟩ := ih (fun z hz => h8 z (List.mem_cons_of_mem _ hz)) (insP p out) (fun z hz => by
      rcases (hm z).1 hz with e | e
      · rw [e]; exact hp
      · exact h1 z e) (strict_insP hp h1 h2)
    refine ⟨a, b, fun x => ?_⟩
    rw [List.foldl_cons, c x, hm x, List.mem_cons]
    constructor
    · rintro (h | h | h)
      · exact .inl (.inr h)
      · exact .inl (.inl h)
      · exact .inr h
    · rintro ((h | h) | h)
      · exact .inr (.inl h)
      · exact .inl h
      · exact .inr (.inr h)
theorem mem_sortD {m : List Pol} (h8 : ∀ p ∈ m, Len8 p) (x : Pol) : x ∈ sortD m ↔ x ∈ m := by
  have := (sortD_aux m h8 [] (by simp) List.Pairwise.nil).2.2 x
  unfold sortD
  simpa using this
theorem strict_sortD {m : List Pol} (h8 : ∀ p ∈ m, Len8 p) : StrictP (sortD m) := (sortD_aux m h8 [] (by simp) List.Pairwise.nil).2.1
/-- Sorting and taking out equal neighbours gives the same list. -/
theorem compact_sortD {l m : List Pol} (h8 : ∀ p ∈ m, Len8 p) (hp : l.Perm m) (hs : l.Pairwise (fun p q => ¬ cmpP q p < 0)) : compactP l = sortD m := by
  have h8' : ∀ p ∈ l, Len8 p := fun p hpl => h8 p (hp.mem_iff.1 hpl)
  refine strict_ext (strict_compK h8' hs _ (Nat.le_refl _)) (strict_sortD h8) (fun x => ?_)
  have := mem_compK h8' l.length (Nat.le_refl _) x
  rw [List.take_length] at this
  unfold compactP
  rw [this, mem_sortD h8, hp.mem_iff]

end Go.Proofs.YthhdleppkggepaaGreat
