/- The walk of ModelLost. -/
import Derived.Test.YtemllidcnamlmaaWn
import Derived.Test.YtemllidcnamlmaaLost
namespace Go.Proofs.Ytemllidcnamlmaa
open Go.RowKit

theorem lst_zero (base : Int) (lost : Nat) (l : List Int) : MS.new base = MS.lst base lost l 0 := by simp [MS.new, MS.lst]

/-- What Apply comes to, whichever way. -/
theorem ChgPost.both {w : World} {o : Option MS} {e : Ending} {w' : World} (h : ChgPost w o e w') :
    ∃ (m' : MS) (A : Option Addr) (n c : Nat), e = .returned (.tuple #[.agg (cells m' (.slice A n c)), .bool o.isSome]) ∧ Below w.heap.size w w' := by
  obtain ⟨hb, h⟩ := h
  cases o with
  | none => exact ⟨MS.zero, none, 0, 0, h, hb⟩
  | some m => obtain ⟨s, A, n, c, vs, he, _⟩ := h; exact ⟨m, A, n, c, he, hb⟩

theorem apply_both (w : World) (m : MS) (c : CM) (r : RM) (RA : Option Addr) (rn rc : Nat) (vs : List Value) (cA : Option Addr) (cn cc : Nat) (rA : Option Addr) (rnn rcc : Nat)
    (hi : m.Inv) (hr : RecsR w w.heap.size RA rn rc vs m.recs) (hcd : Byt w w.heap.size cA cn cc c.data) (hrd : Byt w w.heap.size rA rnn rcc r.data) (B : Bool) (hB : (m.apply c r).isSome = B) :
    Calls Try.prog 8 #[.agg (cells m (.slice RA rn rc)), callV c cA cn cc, resV r rA rnn rcc] w fun e w' => ∃ (m' : MS) (A : Option Addr) (n c : Nat), e = .returned (.tuple #[.agg (cells m' (.slice A n c)), .bool B]) ∧ Below w.heap.size w w' :=
  (apply_any w m c r RA rn rc vs cA cn cc rA rnn rcc hi hr hcd hrd).mono fun e w' h => by rw [← hB]; exact h.both

set_option maxHeartbeats 8000000 in
set_option maxRecDepth 100000 in
theorem lost_no1 (w : World) (base a1 a2 : Int) (A : Option Addr) (dn dc : Nat)  (c1 : base < 1) :
    Calls Try.prog 4 #[.int .i64 base, .int .i64 a1, .int .i64 a2, .slice A dn dc] w fun e w' => e = .returned (.bool true) ∧ Below w.heap.size w w' := by
  go_enter Try.func4, Try.ntmps4
  go_wp2_with fail
  refine (begun_any w).mono ?_
  rintro e w1 ⟨rfl, hb1⟩
  have B1 := hide hb1
  clear hb1
  go_wp2_with fail
  go_ret
  exact ⟨rfl, B1.out⟩

set_option maxHeartbeats 8000000 in
set_option maxRecDepth 100000 in
theorem lost_no2 (w : World) (base a1 a2 : Int) (A : Option Addr) (dn dc : Nat) (c1 : 1 ≤ base) (c2 : 1152921504606846976 < base) :
    Calls Try.prog 4 #[.int .i64 base, .int .i64 a1, .int .i64 a2, .slice A dn dc] w fun e w' => e = .returned (.bool true) ∧ Below w.heap.size w w' := by
  go_enter Try.func4, Try.ntmps4
  go_wp2_with fail
  refine (begun_any w).mono ?_
  rintro e w1 ⟨rfl, hb1⟩
  have B1 := hide hb1
  clear hb1
  go_wp2_with fail
  go_ret
  exact ⟨rfl, B1.out⟩

set_option maxHeartbeats 8000000 in
set_option maxRecDepth 100000 in
theorem lost_no3 (w : World) (base a1 a2 : Int) (A : Option Addr) (dn dc : Nat) (c1 : 1 ≤ base) (c2 : base ≤ 1152921504606846976) (c3 : a1 < 1) :
    Calls Try.prog 4 #[.int .i64 base, .int .i64 a1, .int .i64 a2, .slice A dn dc] w fun e w' => e = .returned (.bool true) ∧ Below w.heap.size w w' := by
  go_enter Try.func4, Try.ntmps4
  go_wp2_with fail
  refine (begun_any w).mono ?_
  rintro e w1 ⟨rfl, hb1⟩
  have B1 := hide hb1
  clear hb1
  go_wp2_with fail
  go_ret
  exact ⟨rfl, B1.out⟩

set_option maxHeartbeats 8000000 in
set_option maxRecDepth 100000 in
theorem lost_no4 (w : World) (base a1 a2 : Int) (A : Option Addr) (dn dc : Nat) (c1 : 1 ≤ base) (c2 : base ≤ 1152921504606846976) (c3 : 1 ≤ a1) (c4 : 30 < a1) :
    Calls Try.prog 4 #[.int .i64 base, .int .i64 a1, .int .i64 a2, .slice A dn dc] w fun e w' => e = .returned (.bool true) ∧ Below w.heap.size w w' := by
  go_enter Try.func4, Try.ntmps4
  go_wp2_with fail
  refine (begun_any w).mono ?_
  rintro e w1 ⟨rfl, hb1⟩
  have B1 := hide hb1
  clear hb1
  go_wp2_with fail
  go_ret
  exact ⟨rfl, B1.out⟩

set_option maxHeartbeats 8000000 in
set_option maxRecDepth 100000 in
theorem lost_no5 (w : World) (base a1 a2 : Int) (A : Option Addr) (dn dc : Nat) (c1 : 1 ≤ base) (c2 : base ≤ 1152921504606846976) (c3 : 1 ≤ a1) (c4 : a1 ≤ 30) (c5 : a2 < 0) :
    Calls Try.prog 4 #[.int .i64 base, .int .i64 a1, .int .i64 a2, .slice A dn dc] w fun e w' => e = .returned (.bool true) ∧ Below w.heap.size w w' := by
  go_enter Try.func4, Try.ntmps4
  go_wp2_with fail
  refine (begun_any w).mono ?_
  rintro e w1 ⟨rfl, hb1⟩
  have B1 := hide hb1
  clear hb1
  go_wp2_with fail
  go_ret
  exact ⟨rfl, B1.out⟩

set_option maxHeartbeats 8000000 in
set_option maxRecDepth 100000 in
theorem lost_no6 (w : World) (base a1 a2 : Int) (A : Option Addr) (dn dc : Nat) (c1 : 1 ≤ base) (c2 : base ≤ 1152921504606846976) (c3 : 1 ≤ a1) (c4 : a1 ≤ 30) (c5 : 0 ≤ a2) (c6 : a1 ≤ a2) :
    Calls Try.prog 4 #[.int .i64 base, .int .i64 a1, .int .i64 a2, .slice A dn dc] w fun e w' => e = .returned (.bool true) ∧ Below w.heap.size w w' := by
  go_enter Try.func4, Try.ntmps4
  go_wp2_with fail
  refine (begun_any w).mono ?_
  rintro e w1 ⟨rfl, hb1⟩
  have B1 := hide hb1
  clear hb1
  go_wp2_with fail
  go_ret
  exact ⟨rfl, B1.out⟩

set_option maxHeartbeats 8000000 in
set_option maxRecDepth 100000 in
theorem lost_no7 (w : World) (base a1 a2 : Int) (A : Option Addr) (dn dc : Nat) (c1 : 1 ≤ base) (c2 : base ≤ 1152921504606846976) (c3 : 1 ≤ a1) (c4 : a1 ≤ 30) (c5 : 0 ≤ a2) (c6 : a2 < a1) (c7 : 100 < (dn : Int)) :
    Calls Try.prog 4 #[.int .i64 base, .int .i64 a1, .int .i64 a2, .slice A dn dc] w fun e w' => e = .returned (.bool true) ∧ Below w.heap.size w w' := by
  go_enter Try.func4, Try.ntmps4
  go_wp2_with fail
  refine (begun_any w).mono ?_
  rintro e w1 ⟨rfl, hb1⟩
  have B1 := hide hb1
  clear hb1
  go_wp2_with fail
  go_ret
  exact ⟨rfl, B1.out⟩

/-- The first loop's relation. -/
def LRel1 (W : World) (base : Int) (lost : Nat) (l : List Int) (A : Option Addr) (dn dc b bc n : Nat) (i : Value) (wr : World) : Prop :=
  ∃ (k : Nat) (A1 : Option Addr) (q c1 : Nat) (vs : List Value), k ≤ n ∧ i = .int .i64 k ∧ Below W.heap.size W wr ∧ Blk wr b 26 (cells (MS.lst base lost l k) (.slice A1 q c1)) ∧
    Blk wr bc 32 #[.int .i64 2, .int .i64 0, .slice A dn dc] ∧ Recs wr (MS.lst base lost l k) (.slice A1 q c1) vs
/-- The second's. -/
def LRel2 (W : World) (m : MS) (A1 : Option Addr) (q c1 b n : Nat) (vs : List Value) (i : Value) (wr : World) : Prop :=
  ∃ k : Nat, k ≤ n ∧ i = .int .i64 k ∧ Below W.heap.size W wr ∧ Blk wr b 26 (cells m (.slice A1 q c1)) ∧ Recs wr m (.slice A1 q c1) vs
theorem new_two (w : World) (m : MS) (rv : Value) (o : Obj) : Blk ((w.alloc (.cells (cells m rv) 26)).alloc o) w.heap.size 26 (cells m rv) := (Blk.new _ _ _).alloc _

set_option maxHeartbeats 8000000 in
set_option maxRecDepth 100000 in
theorem lost_ok (w : World) (base : Int) (n lost : Nat) (A : Option Addr) (dn dc : Nat) (l : List Int) (h1 : 1 ≤ base) (h2 : base ≤ 1152921504606846976) (hn1 : 1 ≤ n) (hn : n ≤ 30) (hl : lost < n) (hd : dn ≤ 100) (hB : Byt w w.heap.size A dn dc l) :
    Calls Try.prog 4 #[.int .i64 base, .int .i64 n, .int .i64 lost, .slice A dn dc] w fun e w' => e = .returned (.bool true) ∧ Below w.heap.size w w' := by
  have hdl : l.length ≤ 100 := by have := hB.1.1; simp at this; omega
  have HB0 := hide hB
  have HDL := hide hdl
  clear hB hdl
  go_enter Try.func4, Try.ntmps4
  go_wp2_with fail
  refine (begun_any w).mono ?_
  rintro e w1 ⟨rfl, hb1⟩
  have B1 := hide hb1
  clear hb1
  go_wp2_with fail
  refine (new_ok base w1 h1).mono ?_
  rintro e w2 ⟨rfl, hb2⟩
  have B2 := hide (B1.out.trans (hb2.mono B1.out.size))
  clear hb2
  have hbl : w.heap.size ≤ w2.heap.size := B2.out.size
  have HX := hide (new_two w2 (MS.new base) (.slice none 0 0) (.cells #[.int .i64 2, .int .i64 0, .slice A dn dc] 32))
  have HY := hide (Blk.new2 w2 (.cells (cells (MS.new base) (.slice none 0 0)) 26) 32 #[.int .i64 2, .int .i64 0, .slice A dn dc])
  have B3 := hide ((B2.out.alloc hbl (.cells (cells (MS.new base) (.slice none 0 0)) 26)).alloc (by simp; omega) (.cells #[.int .i64 2, .int .i64 0, .slice A dn dc] 32))
  have R3 := hide (((Recs.nil w2 base).alloc (.cells (cells (MS.new base) (.slice none 0 0)) 26)).alloc (.cells #[.int .i64 2, .int .i64 0, .slice A dn dc] 32))
  have hcb : w.heap.size ≤ w2.heap.size + 1 := by omega
  rw [lst_zero base lost l] at HX HY B3 R3 ⊢
  generalize hm0 : MS.lst base lost l 0 = m0 at HX HY B3 R3 ⊢
  have HM0 := hide hm0
  clear hm0
  unfold cells at HX HY B3 R3 ⊢
  go_wp2_with fail
  generalize (w2.alloc _).alloc _ = w3 at HX HY B3 R3 ⊢
  generalize w2.heap.size + 1 = bc at HY hcb ⊢
  generalize w2.heap.size = b at HX hbl ⊢
  go_loopw [12] (fun i wr => LRel1 w base lost l A dn dc b bc n i wr) (fun i _ => n - (intOf i).toNat)
  case atStart => exact ⟨0, none, 0, 0, [], Nat.zero_le _, rfl, B3.out, by rw [HM0.out]; exact HX.out, HY.out, by rw [HM0.out]; exact R3.out⟩
  case round =>
    obtain ⟨k, A1, q, c1, vs, hk, rfl, hbel, hblk, hbc, hrec⟩ := hrel
    by_cases hlt : k < n
    · have wl : w.heap.size ≤ wr.heap.size := hbel.size
      have bl : b < wr.heap.size := hblk.lt
      have bcl : bc < wr.heap.size := hbc.lt
      have hlt' : (k : Int) < n := by omega
      have HI := hide (MS.lst_inv h1 h2 hn HDL.out (by omega : k ≤ n) (lost := lost))
      have HS := hide (MS.lst_step h1 h2 hn HDL.out hlt (lost := lost))
      have HBEL := hide hbel; have HBLK := hide hblk; have HBC := hide hbc; have HREC := hide hrec
      clear hbel hblk hbc hrec HX HY B3 R3 B1 B2
      generalize hm : MS.lst base lost l k = m at HI HS HBLK HREC
      generalize hm1 : MS.lst base lost l (k + 1) = m1 at HS
      have HM := hide hm; have HM1 := hide hm1
      clear hm hm1
      by_cases he : k = lost
      · subst he
        rw [if_pos rfl] at HS
        have he' : ((k : Int) == (k : Int)) = true := by simp
        have Y0 := fun (o : Obj) => (HBLK.out.alloc o).cell 0
        have Y1 := fun (o : Obj) => (HBLK.out.alloc o).cell 1
        have Y2 := fun (o : Obj) => (HBLK.out.alloc o).cell 2
        have Y3 := fun (o : Obj) => (HBLK.out.alloc o).cell 3
        have Y4 := fun (o : Obj) => (HBLK.out.alloc o).cell 4
        have Y5 := fun (o : Obj) => (HBLK.out.alloc o).cell 5
        have Y6 := fun (o : Obj) => (HBLK.out.alloc o).cell 6
        have Y7 := fun (o : Obj) => (HBLK.out.alloc o).cell 7
        have Z0 := fun (o : Obj) => (HBC.out.alloc o).cell 0
        have Z1 := fun (o : Obj) => (HBC.out.alloc o).cell 1
        have Z2 := fun (o : Obj) => (HBC.out.alloc o).cell 2
        simp [cells] at Y0 Y1 Y2 Y3 Y4 Y5 Y6 Y7 Z0 Z1 Z2
        have hcall := fun (o : Obj) => apply_any (wr.alloc o) m ⟨2, 0, l⟩ ⟨40, base + k, []⟩ A1 q c1 vs A dn dc none 0 0 HI.out (HREC.out.alloc o).reads (((HB0.out.below HBEL.out).up wl).alloc o) (Byt.none_ _ _ _ _)
        rw [HS.out] at hcall
        dsimp only [cells, callV, resV] at hcall
        have HCALL := hide hcall
        clear hcall
        go_wp2_with fail
        refine (HCALL.out _).mono ?_
        clear HCALL
        rintro e w6 ⟨hb6, s2, A2, n2, c2, vs2, rfl, hst⟩
        have hz6 := hb6.size
        simp only [World.size_alloc] at hz6
        have hne : bc ≠ b := HBC.out.ne_ HBLK.out (by decide)
        have P6 := (HBLK.out.alloc _).below hb6 (by simp; omega)
        have TR := Trk.mk (((HBEL.out.alloc wl _).trans (hb6.mono (by simp; omega))).alloc (by omega) (.cells (cells m1 (.slice A2 n2 c2)) 26)) (P6.alloc _) (Blk.new _ _ _) (hst.recs.alloc _) (by omega) hbl (by omega)
        have BC := ((HBC.out.alloc _).below hb6 (by simp; omega)).alloc (.cells (cells m1 (.slice A2 n2 c2)) 26)
        have y0 := fun (o : Obj) => (P6.alloc o).cell 0; have g0 := fun (o : Obj) => (P6.alloc o).frozen 0
        have y1 := fun (o : Obj) => (P6.alloc o).cell 1; have g1 := fun (o : Obj) => (P6.alloc o).frozen 1
        have y2 := fun (o : Obj) => (P6.alloc o).cell 2; have g2 := fun (o : Obj) => (P6.alloc o).frozen 2
        have y3 := fun (o : Obj) => (P6.alloc o).cell 3; have g3 := fun (o : Obj) => (P6.alloc o).frozen 3
        have y4 := fun (o : Obj) => (P6.alloc o).cell 4; have g4 := fun (o : Obj) => (P6.alloc o).frozen 4
        have y5 := fun (o : Obj) => (P6.alloc o).cell 5; have g5 := fun (o : Obj) => (P6.alloc o).frozen 5
        have y6 := fun (o : Obj) => (P6.alloc o).cell 6; have g6 := fun (o : Obj) => (P6.alloc o).frozen 6
        have y7 := fun (o : Obj) => (P6.alloc o).cell 7; have g7 := fun (o : Obj) => (P6.alloc o).frozen 7
        simp [cells] at y0 y1 y2 y3 y4 y5 y6 y7
        have hcs : (((((((((cells m (.slice A1 q c1)).setIfInBounds 0 (.int .i64 m1.base)).setIfInBounds 1 (.int .i64 m1.first)).setIfInBounds 2 (.int .i64 m1.durable)).setIfInBounds 3 (.int .i64 m1.next)).setIfInBounds 4 (.int .i64 m1.limit)).setIfInBounds 5 (.slice A2 n2 c2)).setIfInBounds 6 (.bool m1.failed)).setIfInBounds 7 (.bool m1.closed)) = cells m1 (.slice A2 n2 c2) := rfl
        have hdf := ((((((((TR.setb 0 (.int .i64 m1.base)).setb 1 (.int .i64 m1.first)).setb 2 (.int .i64 m1.durable)).setb 3 (.int .i64 m1.next)).setb 4 (.int .i64 m1.limit)).setb 5 (.slice A2 n2 c2)).setb 6 (.bool m1.failed)).setb 7 (.bool m1.closed))
        rw [hcs] at hdf
        have DF := hide (And.intro hdf.below (And.intro hdf.pb (And.intro ((((((((BC.far (p := ⟨b, 0, none⟩) hne (.int .i64 m1.base)).far (p := ⟨b, 1, none⟩) hne (.int .i64 m1.first)).far (p := ⟨b, 2, none⟩) hne (.int .i64 m1.durable)).far (p := ⟨b, 3, none⟩) hne (.int .i64 m1.next)).far (p := ⟨b, 4, none⟩) hne (.int .i64 m1.limit)).far (p := ⟨b, 5, none⟩) hne (.slice A2 n2 c2)).far (p := ⟨b, 6, none⟩) hne (.bool m1.failed)).far (p := ⟨b, 7, none⟩) hne (.bool m1.closed)) hdf.recs)))
        clear hcs hdf TR BC P6 hst hb6 hz6 Y0 Y1 Y2 Y3 Y4 Y5 Y6 Y7 Z0 Z1 Z2
        unfold cells at DF ⊢
        go_wp2_with fail
        go_roundw
        case rel => exact ⟨k + 1, A2, n2, c2, vs2, hlt, by simp, DF.out.1, by rw [HM1.out]; exact DF.out.2.1, DF.out.2.2.1, by rw [HM1.out]; exact DF.out.2.2.2⟩
        case measure => exact meas n k hlt
      · rw [if_neg he] at HS
        have he' : ((k : Int) == (lost : Int)) = false := by simp; omega
        have Y0 := fun (o : Obj) => (HBLK.out.alloc o).cell 0
        have Y1 := fun (o : Obj) => (HBLK.out.alloc o).cell 1
        have Y2 := fun (o : Obj) => (HBLK.out.alloc o).cell 2
        have Y3 := fun (o : Obj) => (HBLK.out.alloc o).cell 3
        have Y4 := fun (o : Obj) => (HBLK.out.alloc o).cell 4
        have Y5 := fun (o : Obj) => (HBLK.out.alloc o).cell 5
        have Y6 := fun (o : Obj) => (HBLK.out.alloc o).cell 6
        have Y7 := fun (o : Obj) => (HBLK.out.alloc o).cell 7
        have Z0 := fun (o : Obj) => (HBC.out.alloc o).cell 0
        have Z1 := fun (o : Obj) => (HBC.out.alloc o).cell 1
        have Z2 := fun (o : Obj) => (HBC.out.alloc o).cell 2
        simp [cells] at Y0 Y1 Y2 Y3 Y4 Y5 Y6 Y7 Z0 Z1 Z2
        have hcall := fun (o : Obj) => apply_any (wr.alloc o) m ⟨2, 0, l⟩ ⟨0, base + k, []⟩ A1 q c1 vs A dn dc none 0 0 HI.out (HREC.out.alloc o).reads (((HB0.out.below HBEL.out).up wl).alloc o) (Byt.none_ _ _ _ _)
        rw [HS.out] at hcall
        dsimp only [cells, callV, resV] at hcall
        have HCALL := hide hcall
        clear hcall
        go_wp2_with fail
        refine (HCALL.out _).mono ?_
        clear HCALL
        rintro e w6 ⟨hb6, s2, A2, n2, c2, vs2, rfl, hst⟩
        have hz6 := hb6.size
        simp only [World.size_alloc] at hz6
        have hne : bc ≠ b := HBC.out.ne_ HBLK.out (by decide)
        have P6 := (HBLK.out.alloc _).below hb6 (by simp; omega)
        have TR := Trk.mk (((HBEL.out.alloc wl _).trans (hb6.mono (by simp; omega))).alloc (by omega) (.cells (cells m1 (.slice A2 n2 c2)) 26)) (P6.alloc _) (Blk.new _ _ _) (hst.recs.alloc _) (by omega) hbl (by omega)
        have BC := ((HBC.out.alloc _).below hb6 (by simp; omega)).alloc (.cells (cells m1 (.slice A2 n2 c2)) 26)
        have y0 := fun (o : Obj) => (P6.alloc o).cell 0; have g0 := fun (o : Obj) => (P6.alloc o).frozen 0
        have y1 := fun (o : Obj) => (P6.alloc o).cell 1; have g1 := fun (o : Obj) => (P6.alloc o).frozen 1
        have y2 := fun (o : Obj) => (P6.alloc o).cell 2; have g2 := fun (o : Obj) => (P6.alloc o).frozen 2
        have y3 := fun (o : Obj) => (P6.alloc o).cell 3; have g3 := fun (o : Obj) => (P6.alloc o).frozen 3
        have y4 := fun (o : Obj) => (P6.alloc o).cell 4; have g4 := fun (o : Obj) => (P6.alloc o).frozen 4
        have y5 := fun (o : Obj) => (P6.alloc o).cell 5; have g5 := fun (o : Obj) => (P6.alloc o).frozen 5
        have y6 := fun (o : Obj) => (P6.alloc o).cell 6; have g6 := fun (o : Obj) => (P6.alloc o).frozen 6
        have y7 := fun (o : Obj) => (P6.alloc o).cell 7; have g7 := fun (o : Obj) => (P6.alloc o).frozen 7
        simp [cells] at y0 y1 y2 y3 y4 y5 y6 y7
        have hcs : (((((((((cells m (.slice A1 q c1)).setIfInBounds 0 (.int .i64 m1.base)).setIfInBounds 1 (.int .i64 m1.first)).setIfInBounds 2 (.int .i64 m1.durable)).setIfInBounds 3 (.int .i64 m1.next)).setIfInBounds 4 (.int .i64 m1.limit)).setIfInBounds 5 (.slice A2 n2 c2)).setIfInBounds 6 (.bool m1.failed)).setIfInBounds 7 (.bool m1.closed)) = cells m1 (.slice A2 n2 c2) := rfl
        have hdf := ((((((((TR.setb 0 (.int .i64 m1.base)).setb 1 (.int .i64 m1.first)).setb 2 (.int .i64 m1.durable)).setb 3 (.int .i64 m1.next)).setb 4 (.int .i64 m1.limit)).setb 5 (.slice A2 n2 c2)).setb 6 (.bool m1.failed)).setb 7 (.bool m1.closed))
        rw [hcs] at hdf
        have DF := hide (And.intro hdf.below (And.intro hdf.pb (And.intro ((((((((BC.far (p := ⟨b, 0, none⟩) hne (.int .i64 m1.base)).far (p := ⟨b, 1, none⟩) hne (.int .i64 m1.first)).far (p := ⟨b, 2, none⟩) hne (.int .i64 m1.durable)).far (p := ⟨b, 3, none⟩) hne (.int .i64 m1.next)).far (p := ⟨b, 4, none⟩) hne (.int .i64 m1.limit)).far (p := ⟨b, 5, none⟩) hne (.slice A2 n2 c2)).far (p := ⟨b, 6, none⟩) hne (.bool m1.failed)).far (p := ⟨b, 7, none⟩) hne (.bool m1.closed)) hdf.recs)))
        clear hcs hdf TR BC P6 hst hb6 hz6 Y0 Y1 Y2 Y3 Y4 Y5 Y6 Y7 Z0 Z1 Z2
        unfold cells at DF ⊢
        go_wp2_with fail
        go_roundw
        case rel => exact ⟨k + 1, A2, n2, c2, vs2, hlt, by simp, DF.out.1, by rw [HM1.out]; exact DF.out.2.1, DF.out.2.2.1, by rw [HM1.out]; exact DF.out.2.2.2⟩
        case measure => exact meas n k hlt
    · obtain rfl : k = n := by omega
      have hnn : decide ((k : Int) < k) = false := by simp
      have wl : w.heap.size ≤ wr.heap.size := hbel.size
      have bl : b < wr.heap.size := hblk.lt
      have HI := hide (MS.lst_inv h1 h2 hn HDL.out (Nat.le_refl k) (lost := lost))
      have HBEL := hide hbel; have HBLK := hide hblk; have HREC := hide hrec
      clear hbel hblk hbc hrec HX HY B3 R3 B1 B2
      have HP1 := hide (MS.lst_append (base := base) (data := l) hl); have HP2 := hide (MS.lst_sync (base := base) (data := l) hl); have HP3 := hide (MS.lst_close (base := base) (data := l) hl)
      have hm4 : (MS.lst base lost l k).limit = base + lost := by simp [MS.lst, hl]
      have hm3 : (MS.lst base lost l k).next = base + k := rfl
      generalize hm : MS.lst base lost l k = m at HI HBLK HREC HP1 HP2 HP3 hm3 hm4
      have HM := hide hm
      clear hm
      have y0 := HBLK.out.cell 0; have y1 := HBLK.out.cell 1; have y2 := HBLK.out.cell 2; have y3 := HBLK.out.cell 3; have y4 := HBLK.out.cell 4; have y5 := HBLK.out.cell 5; have y6 := HBLK.out.cell 6; have y7 := HBLK.out.cell 7
      simp [cells] at y0 y1 y2 y3 y4 y5 y6 y7
      have hc1 := apply_any wr m ⟨1, 0, l⟩ ⟨0, m.next, []⟩ A1 q c1 vs A dn dc none 0 0 HI.out HREC.out.reads ((HB0.out.below HBEL.out).up wl) (Byt.none_ _ _ _ _)
      rw [HP1.out] at hc1
      dsimp only [cells, callV, resV] at hc1
      rw [hm3, hm4] at hc1
      go_wp2_with fail
      refine hc1.mono ?_
      clear hc1
      rintro e w6 ⟨hb6, hres⟩
      dsimp only at hres
      subst hres
      have P6 := hide (HBLK.out.below hb6 bl)
      have Q6 := hide (HREC.out.below hb6)
      have B6 := hide (HBEL.out.trans (hb6.mono wl))
      clear y0 y1 y2 y3 y4 y5 y6 y7 hb6
      have y0 := fun (o : Obj) => (P6.out.alloc o).cell 0
      have y1 := fun (o : Obj) => (P6.out.alloc o).cell 1
      have y2 := fun (o : Obj) => (P6.out.alloc o).cell 2
      have y3 := fun (o : Obj) => (P6.out.alloc o).cell 3
      have y4 := fun (o : Obj) => (P6.out.alloc o).cell 4
      have y5 := fun (o : Obj) => (P6.out.alloc o).cell 5
      have y6 := fun (o : Obj) => (P6.out.alloc o).cell 6
      have y7 := fun (o : Obj) => (P6.out.alloc o).cell 7
      simp [cells] at y0 y1 y2 y3 y4 y5 y6 y7
      have hc2 := fun (o : Obj) => apply_any (w6.alloc o) m ⟨3, 0, []⟩ ⟨0, 0, []⟩ A1 q c1 vs none 0 0 none 0 0 HI.out (Q6.out.alloc o).reads (Byt.none_ _ _ _ _) (Byt.none_ _ _ _ _)
      rw [HP2.out] at hc2
      dsimp only [cells, callV, resV] at hc2
      rw [hm3, hm4] at hc2
      have HC := hide hc2
      clear hc2
      unfold zcells cells MS.zero
      go_wp2_with fail
      refine (HC.out _).mono ?_
      clear HC
      rintro e w26 ⟨hb2, hres⟩
      dsimp only at hres
      subst hres
      have P2 := hide ((P6.out.alloc _).below hb2 (by have := P6.out.lt; simp; omega))
      have Q2 := hide ((Q6.out.alloc _).below hb2)
      have B2 := hide ((B6.out.alloc B6.out.size _).trans (hb2.mono (by have := B6.out.size; simp; omega)))
      clear y0 y1 y2 y3 y4 y5 y6 y7 hb2
      have y0 := fun (o : Obj) => (P2.out.alloc o).cell 0
      have y1 := fun (o : Obj) => (P2.out.alloc o).cell 1
      have y2 := fun (o : Obj) => (P2.out.alloc o).cell 2
      have y3 := fun (o : Obj) => (P2.out.alloc o).cell 3
      have y4 := fun (o : Obj) => (P2.out.alloc o).cell 4
      have y5 := fun (o : Obj) => (P2.out.alloc o).cell 5
      have y6 := fun (o : Obj) => (P2.out.alloc o).cell 6
      have y7 := fun (o : Obj) => (P2.out.alloc o).cell 7
      simp [cells] at y0 y1 y2 y3 y4 y5 y6 y7
      have hc3 := fun (o : Obj) => apply_any (w26.alloc o) m ⟨7, 0, []⟩ ⟨0, 0, []⟩ A1 q c1 vs none 0 0 none 0 0 HI.out (Q2.out.alloc o).reads (Byt.none_ _ _ _ _) (Byt.none_ _ _ _ _)
      rw [HP3.out] at hc3
      dsimp only [cells, callV, resV] at hc3
      rw [hm3, hm4] at hc3
      have HC := hide hc3
      clear hc3
      unfold zcells cells MS.zero
      go_wp2_with fail
      refine (HC.out _).mono ?_
      clear HC
      rintro e w36 ⟨hb3, hres⟩
      dsimp only at hres
      subst hres
      have P3 := hide ((P2.out.alloc _).below hb3 (by have := P2.out.lt; simp; omega))
      have Q3 := hide ((Q2.out.alloc _).below hb3)
      have B3 := hide ((B2.out.alloc B2.out.size _).trans (hb3.mono (by have := B2.out.size; simp; omega)))
      clear y0 y1 y2 y3 y4 y5 y6 y7 hb3
      have y0 := fun (o : Obj) => (P3.out.alloc o).cell 0
      have y1 := fun (o : Obj) => (P3.out.alloc o).cell 1
      have y2 := fun (o : Obj) => (P3.out.alloc o).cell 2
      have y3 := fun (o : Obj) => (P3.out.alloc o).cell 3
      have y4 := fun (o : Obj) => (P3.out.alloc o).cell 4
      have y5 := fun (o : Obj) => (P3.out.alloc o).cell 5
      have y6 := fun (o : Obj) => (P3.out.alloc o).cell 6
      have y7 := fun (o : Obj) => (P3.out.alloc o).cell 7
      simp [cells] at y0 y1 y2 y3 y4 y5 y6 y7
      unfold zcells cells MS.zero
      go_wp2_with fail
      have P4 := hide (P3.out.alloc (.cells #[.int .i64 0, .int .i64 0, .int .i64 0, .int .i64 0, .int .i64 0, .slice none 0 0, .bool false, .bool false] 26))
      have Q4 := hide (Q3.out.alloc (.cells #[.int .i64 0, .int .i64 0, .int .i64 0, .int .i64 0, .int .i64 0, .slice none 0 0, .bool false, .bool false] 26))
      have B4 := hide (B3.out.alloc B3.out.size (.cells #[.int .i64 0, .int .i64 0, .int .i64 0, .int .i64 0, .int .i64 0, .slice none 0 0, .bool false, .bool false] 26))
      clear HBLK HREC HBEL HP1 HP2 HP3 P6 Q6 B6 P2 Q2 B2 P3 Q3 B3 y0 y1 y2 y3 y4 y5 y6 y7 wl bl
      generalize w36.alloc _ = w4 at P4 Q4 B4 ⊢
      go_loopw [22] (fun i wr => LRel2 w m A1 q c1 b k vs i wr) (fun i _ => k - (intOf i).toNat)
      case atStart => exact ⟨0, Nat.zero_le _, rfl, B4.out, P4.out, Q4.out⟩
      case round =>
        obtain ⟨j, hj, rfl, hbel, hblk, hrec⟩ := hrel
        have wl : w.heap.size ≤ wr.heap.size := hbel.size
        have bl : b < wr.heap.size := hblk.lt
        have P0 := hide hblk; have Q0 := hide hrec; have B0 := hide hbel
        clear hbel hblk hrec P4 Q4 B4
        by_cases hjk : j < k
        · have hjk' : (j : Int) < k := by omega
          have hjk2 : decide ((j : Int) < k) = true := by simp; omega
          have HR1 : (m.apply ⟨4, base + j, []⟩ ⟨0, base + j, l⟩).isSome = decide ((j : Int) < lost) := by rw [← HM.out, MS.lst_read hl hjk]; simp
          have HR2 : (m.apply ⟨4, base + j, []⟩ ⟨42, 0, []⟩).isSome = true := by rw [← HM.out]; exact MS.lst_not
          have HR3 : (m.apply ⟨6, base + j, []⟩ ⟨0, 0, []⟩).isSome = decide ((j : Int) ≤ lost) := by rw [← HM.out, MS.lst_front hl hjk]; simp
          have hsum : 1 ≤ base + (j : Int) ∧ base + (j : Int) ≤ 1152921504606846976 + 30 := by omega
          have hs1 := hsum.1
          have hs2 := hsum.2
          clear hsum
          have HC1 := hide (apply_both wr m ⟨4, base + j, []⟩ ⟨0, base + j, l⟩ A1 q c1 vs none 0 0 A dn dc HI.out Q0.out.reads (Byt.none_ _ _ _ _) ((HB0.out.below B0.out).up wl) _ HR1)
          clear HR1
          have hc1 := HC1.out
          dsimp only [cells, callV, resV] at hc1
          rw [hm3, hm4] at hc1
          have HC := hide hc1
          clear hc1 HC1
          have y0 := P0.out.cell 0; have y1 := P0.out.cell 1; have y2 := P0.out.cell 2; have y3 := P0.out.cell 3; have y4 := P0.out.cell 4; have y5 := P0.out.cell 5; have y6 := P0.out.cell 6; have y7 := P0.out.cell 7
          simp [cells] at y0 y1 y2 y3 y4 y5 y6 y7
          go_wp2_with fail
          refine HC.out.mono ?_
          clear HC
          rintro e w6 ⟨k1, Ak1, kn1, kc1, rfl, hb6⟩
          have P6 := hide (P0.out.below hb6 bl)
          have Q6 := hide (Q0.out.below hb6)
          have B6 := hide (B0.out.trans (hb6.mono wl))
          clear y0 y1 y2 y3 y4 y5 y6 y7 hb6
          have y0 := fun (o : Obj) => (P6.out.alloc o).cell 0
          have y1 := fun (o : Obj) => (P6.out.alloc o).cell 1
          have y2 := fun (o : Obj) => (P6.out.alloc o).cell 2
          have y3 := fun (o : Obj) => (P6.out.alloc o).cell 3
          have y4 := fun (o : Obj) => (P6.out.alloc o).cell 4
          have y5 := fun (o : Obj) => (P6.out.alloc o).cell 5
          have y6 := fun (o : Obj) => (P6.out.alloc o).cell 6
          have y7 := fun (o : Obj) => (P6.out.alloc o).cell 7
          simp [cells] at y0 y1 y2 y3 y4 y5 y6 y7
          have hc2 := fun (o : Obj) => apply_both (w6.alloc o) m ⟨4, base + j, []⟩ ⟨42, 0, []⟩ A1 q c1 vs none 0 0 none 0 0 HI.out (Q6.out.alloc o).reads (Byt.none_ _ _ _ _) (Byt.none_ _ _ _ _) _ HR2
          clear HR2
          dsimp only [cells, callV, resV] at hc2
          rw [hm3, hm4] at hc2
          have HC := hide hc2
          clear hc2
          go_wp2_with fail
          refine (HC.out _).mono ?_
          clear HC
          rintro e w26 ⟨k2, Ak2, kn2, kc2, rfl, hb2⟩
          have P2 := hide ((P6.out.alloc _).below hb2 (by have := P6.out.lt; simp; omega))
          have Q2 := hide ((Q6.out.alloc _).below hb2)
          have B2 := hide ((B6.out.alloc B6.out.size _).trans (hb2.mono (by have := B6.out.size; simp; omega)))
          clear y0 y1 y2 y3 y4 y5 y6 y7 hb2
          have y0 := fun (o : Obj) => (P2.out.alloc o).cell 0
          have y1 := fun (o : Obj) => (P2.out.alloc o).cell 1
          have y2 := fun (o : Obj) => (P2.out.alloc o).cell 2
          have y3 := fun (o : Obj) => (P2.out.alloc o).cell 3
          have y4 := fun (o : Obj) => (P2.out.alloc o).cell 4
          have y5 := fun (o : Obj) => (P2.out.alloc o).cell 5
          have y6 := fun (o : Obj) => (P2.out.alloc o).cell 6
          have y7 := fun (o : Obj) => (P2.out.alloc o).cell 7
          simp [cells] at y0 y1 y2 y3 y4 y5 y6 y7
          have hc3 := fun (o : Obj) => apply_both (w26.alloc o) m ⟨6, base + j, []⟩ ⟨0, 0, []⟩ A1 q c1 vs none 0 0 none 0 0 HI.out (Q2.out.alloc o).reads (Byt.none_ _ _ _ _) (Byt.none_ _ _ _ _) _ HR3
          clear HR3
          dsimp only [cells, callV, resV] at hc3
          rw [hm3, hm4] at hc3
          have HC := hide hc3
          clear hc3
          go_wp2_with fail
          refine (HC.out _).mono ?_
          clear HC
          rintro e w36 ⟨k3, Ak3, kn3, kc3, rfl, hb3⟩
          have P3 := hide ((P2.out.alloc _).below hb3 (by have := P2.out.lt; simp; omega))
          have Q3 := hide ((Q2.out.alloc _).below hb3)
          have B3 := hide ((B2.out.alloc B2.out.size _).trans (hb3.mono (by have := B2.out.size; simp; omega)))
          clear y0 y1 y2 y3 y4 y5 y6 y7 hb3
          go_wp2_with fail
          exact ⟨⟨j + 1, hjk, by simp, B3.out.alloc B3.out.size _, P3.out.alloc _, Q3.out.alloc _⟩, meas k j hjk⟩
        · obtain rfl : j = k := by omega
          have hjk : decide ((j : Int) < j) = false := by simp
          go_wp2_with fail
          go_ret
          exact ⟨rfl, B0.out⟩
end Go.Proofs.Ytemllidcnamlmaa
