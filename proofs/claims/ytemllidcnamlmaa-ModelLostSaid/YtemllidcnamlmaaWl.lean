/- The walks of Apply, Half, New. -/
import Derived.Test.YtemllidcnamlmaaWk
namespace Go.Proofs.Ytemllidcnamlmaa
open Go.RowKit

/-- The boxes of Apply: a state, a call, a result, the new state. -/
structure Pre4 (w w4 : World) (m : MS) (rv : Value) (c1 c2 c3 r1 r2 r3 : Value) : Prop where
  below : Below w.heap.size w w4
  size : w4.heap.size = w.heap.size + 4
  box : Blk w4 w.heap.size 26 (cells m rv)
  p : Blk w4 (w.heap.size + 1) 32 #[c1, c2, c3]
  q : Blk w4 (w.heap.size + 1 + 1) 34 #[r1, r2, r3]
  out : Blk w4 (w.heap.size + 1 + 1 + 1) 26 zcells
theorem pre4 (w : World) (m : MS) (rv c1 c2 c3 r1 r2 r3 : Value) : Pre4 w ((((w.alloc (.cells (cells m rv) 26)).alloc (.cells #[c1, c2, c3] 32)).alloc (.cells #[r1, r2, r3] 34)).alloc (.cells zcells 26)) m rv c1 c2 c3 r1 r2 r3 := by
  refine ⟨((((Below.refl _ _).alloc (Nat.le_refl _) _).alloc (by simp) _).alloc (by simp; omega) _).alloc (by simp; omega) _, by simp, (((Blk.new _ _ _).alloc _).alloc _).alloc _, ?_, ?_, ?_⟩
  · have := ((Blk.new (w.alloc (.cells (cells m rv) 26)) 32 #[c1, c2, c3]).alloc (.cells #[r1, r2, r3] 34)).alloc (.cells zcells 26)
    simpa using this
  · have := (Blk.new ((w.alloc (.cells (cells m rv) 26)).alloc (.cells #[c1, c2, c3] 32)) 34 #[r1, r2, r3]).alloc (.cells zcells 26)
    simpa using this
  · have := Blk.new (((w.alloc (.cells (cells m rv) 26)).alloc (.cells #[c1, c2, c3] 32)).alloc (.cells #[r1, r2, r3] 34)) 26 zcells
    simpa using this
/-- The boxes of Half. -/
structure Pre2 (w w4 : World) (m : MS) (rv : Value) (c1 c2 c3 : Value) : Prop where
  below : Below w.heap.size w w4
  size : w4.heap.size = w.heap.size + 3
  box : Blk w4 w.heap.size 26 (cells m rv)
  p : Blk w4 (w.heap.size + 1) 32 #[c1, c2, c3]
  out : Blk w4 (w.heap.size + 1 + 1) 26 zcells
theorem pre2 (w : World) (m : MS) (rv c1 c2 c3 : Value) : Pre2 w (((w.alloc (.cells (cells m rv) 26)).alloc (.cells #[c1, c2, c3] 32)).alloc (.cells zcells 26)) m rv c1 c2 c3 := by
  refine ⟨(((Below.refl _ _).alloc (Nat.le_refl _) _).alloc (by simp) _).alloc (by simp; omega) _, by simp, ((Blk.new _ _ _).alloc _).alloc _, ?_, ?_⟩
  · have := (Blk.new (w.alloc (.cells (cells m rv) 26)) 32 #[c1, c2, c3]).alloc (.cells zcells 26)
    simpa using this
  · have := Blk.new ((w.alloc (.cells (cells m rv) 26)).alloc (.cells #[c1, c2, c3] 32)) 26 zcells
    simpa using this
/-- A new state, and the block that a result is laid in. -/
structure Out (w w' : World) (B o : Nat) (cs : Array Value) : Prop where
  below : Below B w w'
  out : Blk w' o 26 cs
theorem Out.set_ {w w' : World} {B o : Nat} {cs : Array Value} (h : Out w w' B o cs) (hB : B ≤ o) (i : Nat) (u : Value) : Out w (w'.setCell ⟨o, i, none⟩ u) B o (cs.setIfInBounds i u) :=
  ⟨h.below.setCell (p := ⟨o, i, none⟩) hB u, h.out.set_ i u⟩
structure OutSt (w w' : World) (B o s : Nat) (m : MS) (rv : Value) (vs : List Value) (cs : Array Value) : Prop where
  below : Below B w w'
  out : Blk w' o 26 cs
  st : St w' B s m rv vs
theorem OutSt.set_ {w w' : World} {B o s : Nat} {m : MS} {rv : Value} {vs : List Value} {cs : Array Value} (h : OutSt w w' B o s m rv vs cs) (hB : B ≤ o) (i : Nat) (u : Value) : OutSt w (w'.setCell ⟨o, i, none⟩ u) B o s m rv vs (cs.setIfInBounds i u) :=
  ⟨h.below.setCell (p := ⟨o, i, none⟩) hB u, h.out.set_ i u, h.st.far h.out (by decide) (by decide) (by decide) i u⟩
theorem St.lower {w : World} {B B' s : Nat} {m : MS} {rv : Value} {vs : List Value} (h : St w B s m rv vs) (hB : B' ≤ B) : St w B' s m rv vs :=
  ⟨h.blk, ownsRow_mono h.row hB, fun i x l hx hl => ownsRow_mono (h.one i x l hx hl) hB, Nat.le_trans hB h.low⟩

set_option maxHeartbeats 1000000 in
theorem ap_not (w : World) (m : MS) (c : CM) (r : RM) (A0 : Option Addr) (n0 c0 : Nat) (vs : List Value) (A : Option Addr) (n k : Nat) (A' : Option Addr) (n' k' : Nat) (hi : m.Inv)
    (hm : RecsR w w.heap.size A0 n0 c0 vs m.recs) (hd : Byt w w.heap.size A n k c.data) (hr : Byt w w.heap.size A' n' k' r.data) (hu : decide (MS.used c) = false) :
    Calls Try.prog 8 #[.agg (cells m (.slice A0 n0 c0)), callV c A n k, resV r A' n' k'] w (ChgPost w none) := by
  have hmf : ∀ (fn : Fn) (first cap : Array Value) (w : World), (Instr.makeFunc fn first cap).run Try.prog w = .ok (.func fn first cap) w := fun _ _ _ _ => rfl
  have h4 := pre4 w m (.slice A0 n0 c0) (.int .i64 c.kind) (.int .i64 c.lsn) (.slice A n k) (.int .i64 r.err) (.int .i64 r.lsn) (.slice A' n' k')
  have hdl := hd.1.1
  simp at hdl
  unfold cells zcells MS.zero cells at h4
  simp only at h4
  unfold callV resV cells
  go_enter Try.func8, Try.ntmps8
  go_upto_region 1 with (fail)
  generalize (((w.alloc _).alloc _).alloc _).alloc _ = w4 at h4 ⊢
  have HU := hide hu
  have HDL := hide hdl
  have H4 := hide h4.below
  have HI := hide hi
  have HM := hide ((hm.below h4.below).up h4.below.size)
  have HD := hide ((hd.below h4.below).up h4.below.size)
  have HR := hide ((hr.below h4.below).up h4.below.size)
  have HQ := hide h4.q
  have HP := hide h4.p
  have HO := hide h4.out
  have HX := hide h4.box
  have p0 := h4.p.cell 0; have p1 := h4.p.cell 1; have p2 := h4.p.cell 2
  simp at p0 p1 p2
  have hz4 := h4.size
  have l0 : w.heap.size < w4.heap.size := by omega
  have l1 : w.heap.size + 1 < w4.heap.size := by omega
  have l2 : w.heap.size + 1 + 1 < w4.heap.size := by omega
  have l3 : w.heap.size + 1 + 1 + 1 < w4.heap.size := by omega
  have hob : w.heap.size ≤ w.heap.size + 1 + 1 + 1 := by omega
  generalize w.heap.size + 1 + 1 + 1 = o at HO l3 hob ⊢
  generalize w.heap.size + 1 + 1 = b at HQ l2 ⊢
  generalize w.heap.size + 1 = a at HP p0 p1 p2 l1 ⊢
  clear hm h4 hi hz4 hu hdl hd hr 
  go_wp2_with fail
  refine (used_any w4 c A n k HDL.out).mono ?_
  rintro e w5 ⟨rfl, oo, hw5⟩
  rw [HU.out]
  have hb5 : Below w4.heap.size w4 w5 := by rw [hw5]; exact (Below.refl _ _).alloc (Nat.le_refl _) _
  clear hw5
  have B5 := hide hb5
  have O5 := hide (HO.out.below hb5 l3)
  have X5 := hide (HX.out.below hb5 l0)
  have y0 := O5.out.cell 0
  have y1 := O5.out.cell 1
  have y2 := O5.out.cell 2
  have y3 := O5.out.cell 3
  have y4 := O5.out.cell 4
  have y5 := O5.out.cell 5
  have y6 := O5.out.cell 6
  have y7 := O5.out.cell 7
  have g0 := O5.out.frozen 0
  have g1 := O5.out.frozen 1
  have g2 := O5.out.frozen 2
  have g3 := O5.out.frozen 3
  have g4 := O5.out.frozen 4
  have g5 := O5.out.frozen 5
  have g6 := O5.out.frozen 6
  have g7 := O5.out.frozen 7
  simp [zcells, cells, MS.zero] at y0 y1 y2 y3 y4 y5 y6 y7
  have OO := hide (Out.mk (H4.out.trans (hb5.mono H4.out.size)) O5.out)
  clear hb5
  go_wp2_with fail
  have DD := ((((((((OO.out.set_ hob 0 (.int .i64 0)).set_ hob 1 (.int .i64 0)).set_ hob 2 (.int .i64 0)).set_ hob 3 (.int .i64 0)).set_ hob 4 (.int .i64 0)).set_ hob 5 (.slice none 0 0)).set_ hob 6 (.bool false)).set_ hob 7 (.bool false))
  generalize World.setCell _ _ _ = w6 at DD ⊢
  have v0 := DD.out.cell 0
  have v1 := DD.out.cell 1
  have v2 := DD.out.cell 2
  have v3 := DD.out.cell 3
  have v4 := DD.out.cell 4
  have v5 := DD.out.cell 5
  have v6 := DD.out.cell 6
  have v7 := DD.out.cell 7
  simp [zcells, cells, MS.zero] at v0 v1 v2 v3 v4 v5 v6 v7
  exact bodyPost_ret (v := .tuple #[.agg zcells, .bool false]) (by simp [results, Try.results8, go_sem, v0, v1, v2, v3, v4, v5, v6, v7, zcells, cells, MS.zero]) rfl ⟨DD.below, rfl⟩

set_option maxHeartbeats 1000000 in
theorem ap_none (w : World) (m : MS) (c : CM) (r : RM) (A0 : Option Addr) (n0 c0 : Nat) (vs : List Value) (A : Option Addr) (n k : Nat) (A' : Option Addr) (n' k' : Nat) (hi : m.Inv)
    (hm : RecsR w w.heap.size A0 n0 c0 vs m.recs) (hd : Byt w w.heap.size A n k c.data) (hr : Byt w w.heap.size A' n' k' r.data) (hu : decide (MS.used c) = true) (hA : m.apply1 c r = none) :
    Calls Try.prog 8 #[.agg (cells m (.slice A0 n0 c0)), callV c A n k, resV r A' n' k'] w (ChgPost w none) := by
  have hmf : ∀ (fn : Fn) (first cap : Array Value) (w : World), (Instr.makeFunc fn first cap).run Try.prog w = .ok (.func fn first cap) w := fun _ _ _ _ => rfl
  have h4 := pre4 w m (.slice A0 n0 c0) (.int .i64 c.kind) (.int .i64 c.lsn) (.slice A n k) (.int .i64 r.err) (.int .i64 r.lsn) (.slice A' n' k')
  have hdl := hd.1.1
  simp at hdl
  unfold cells zcells MS.zero cells at h4
  simp only at h4
  unfold callV resV cells
  go_enter Try.func8, Try.ntmps8
  go_upto_region 1 with (fail)
  generalize (((w.alloc _).alloc _).alloc _).alloc _ = w4 at h4 ⊢
  have HU := hide hu
  have HDL := hide hdl
  have H4 := hide h4.below
  have HI := hide hi
  have HA := hide hA
  have HM := hide ((hm.below h4.below).up h4.below.size)
  have HD := hide ((hd.below h4.below).up h4.below.size)
  have HR := hide ((hr.below h4.below).up h4.below.size)
  have HQ := hide h4.q
  have HP := hide h4.p
  have HO := hide h4.out
  have HX := hide h4.box
  have p0 := h4.p.cell 0; have p1 := h4.p.cell 1; have p2 := h4.p.cell 2
  simp at p0 p1 p2
  have hz4 := h4.size
  have l0 : w.heap.size < w4.heap.size := by omega
  have l1 : w.heap.size + 1 < w4.heap.size := by omega
  have l2 : w.heap.size + 1 + 1 < w4.heap.size := by omega
  have l3 : w.heap.size + 1 + 1 + 1 < w4.heap.size := by omega
  have hob : w.heap.size ≤ w.heap.size + 1 + 1 + 1 := by omega
  generalize w.heap.size + 1 + 1 + 1 = o at HO l3 hob ⊢
  generalize w.heap.size + 1 + 1 = b at HQ l2 ⊢
  generalize w.heap.size + 1 = a at HP p0 p1 p2 l1 ⊢
  clear hm h4 hi hz4 hu hdl hd hr hA
  go_wp2_with fail
  refine (used_any w4 c A n k HDL.out).mono ?_
  rintro e w5 ⟨rfl, oo, hw5⟩
  rw [HU.out]
  have hb5 : Below w4.heap.size w4 w5 := by rw [hw5]; exact (Below.refl _ _).alloc (Nat.le_refl _) _
  clear hw5
  have B5 := hide hb5
  have O5 := hide (HO.out.below hb5 l3)
  have X5 := hide (HX.out.below hb5 l0)
  have y0 := X5.out.cell 0
  have y1 := X5.out.cell 1
  have y2 := X5.out.cell 2
  have y3 := X5.out.cell 3
  have y4 := X5.out.cell 4
  have y5 := X5.out.cell 5
  have y6 := X5.out.cell 6
  have y7 := X5.out.cell 7
  simp [cells] at y0 y1 y2 y3 y4 y5 y6 y7
  have M5 := hide ((HM.out.below hb5).up hb5.size)
  have D5 := hide ((HD.out.below hb5).up hb5.size)
  have R5 := hide ((HR.out.below hb5).up hb5.size)
  have P5 := hide (HP.out.below hb5 l1)
  have Q5 := hide (HQ.out.below hb5 l2)
  have hz5 : w4.heap.size ≤ w5.heap.size := hb5.size
  clear hb5
  go_wp2_with fail
  refine (chA_none w5 m c r A0 n0 c0 vs A n k A' n' k' a b HI.out M5.out D5.out R5.out P5.out Q5.out HA.out).mono ?_
  rintro e w6 ⟨hb6, hres⟩
  simp only at hres
  subst hres
  have O6 := hide (O5.out.below hb6 (by omega))
  have OO := hide (Out.mk ((H4.out.trans (B5.out.mono H4.out.size)).trans (hb6.mono (by have := H4.out.size; omega))) O6.out)
  clear hb6 y0 y1 y2 y3 y4 y5 y6 y7
  have y0 := O6.out.cell 0
  have y1 := O6.out.cell 1
  have y2 := O6.out.cell 2
  have y3 := O6.out.cell 3
  have y4 := O6.out.cell 4
  have y5 := O6.out.cell 5
  have y6 := O6.out.cell 6
  have y7 := O6.out.cell 7
  have g0 := O6.out.frozen 0
  have g1 := O6.out.frozen 1
  have g2 := O6.out.frozen 2
  have g3 := O6.out.frozen 3
  have g4 := O6.out.frozen 4
  have g5 := O6.out.frozen 5
  have g6 := O6.out.frozen 6
  have g7 := O6.out.frozen 7
  simp [zcells, cells, MS.zero] at y0 y1 y2 y3 y4 y5 y6 y7
  unfold zcells cells MS.zero
  go_wp2_with fail
  have DD := ((((((((OO.out.set_ hob 0 (.int .i64 0)).set_ hob 1 (.int .i64 0)).set_ hob 2 (.int .i64 0)).set_ hob 3 (.int .i64 0)).set_ hob 4 (.int .i64 0)).set_ hob 5 (.slice none 0 0)).set_ hob 6 (.bool false)).set_ hob 7 (.bool false))
  generalize World.setCell _ _ _ = w7 at DD ⊢
  have v0 := DD.out.cell 0
  have v1 := DD.out.cell 1
  have v2 := DD.out.cell 2
  have v3 := DD.out.cell 3
  have v4 := DD.out.cell 4
  have v5 := DD.out.cell 5
  have v6 := DD.out.cell 6
  have v7 := DD.out.cell 7
  simp [zcells, cells, MS.zero] at v0 v1 v2 v3 v4 v5 v6 v7
  exact bodyPost_ret (v := .tuple #[.agg zcells, .bool false]) (by simp [results, Try.results8, go_sem, v0, v1, v2, v3, v4, v5, v6, v7, zcells, cells, MS.zero]) rfl ⟨DD.below, rfl⟩

set_option maxHeartbeats 1000000 in
theorem ap_some (w : World) (m : MS) (c : CM) (r : RM) (A0 : Option Addr) (n0 c0 : Nat) (vs : List Value) (A : Option Addr) (n k : Nat) (A' : Option Addr) (n' k' : Nat) (hi : m.Inv)
    (hm : RecsR w w.heap.size A0 n0 c0 vs m.recs) (hd : Byt w w.heap.size A n k c.data) (hr : Byt w w.heap.size A' n' k' r.data) (hu : decide (MS.used c) = true) (m1 : MS) (hA : m.apply1 c r = some m1) :
    Calls Try.prog 8 #[.agg (cells m (.slice A0 n0 c0)), callV c A n k, resV r A' n' k'] w (ChgPost w (some m1)) := by
  have hmf : ∀ (fn : Fn) (first cap : Array Value) (w : World), (Instr.makeFunc fn first cap).run Try.prog w = .ok (.func fn first cap) w := fun _ _ _ _ => rfl
  have h4 := pre4 w m (.slice A0 n0 c0) (.int .i64 c.kind) (.int .i64 c.lsn) (.slice A n k) (.int .i64 r.err) (.int .i64 r.lsn) (.slice A' n' k')
  have hdl := hd.1.1
  simp at hdl
  unfold cells zcells MS.zero cells at h4
  simp only at h4
  unfold callV resV cells
  go_enter Try.func8, Try.ntmps8
  go_upto_region 1 with (fail)
  generalize (((w.alloc _).alloc _).alloc _).alloc _ = w4 at h4 ⊢
  have HU := hide hu
  have HDL := hide hdl
  have H4 := hide h4.below
  have HI := hide hi
  have HA := hide hA
  have HM := hide ((hm.below h4.below).up h4.below.size)
  have HD := hide ((hd.below h4.below).up h4.below.size)
  have HR := hide ((hr.below h4.below).up h4.below.size)
  have HQ := hide h4.q
  have HP := hide h4.p
  have HO := hide h4.out
  have HX := hide h4.box
  have p0 := h4.p.cell 0; have p1 := h4.p.cell 1; have p2 := h4.p.cell 2
  simp at p0 p1 p2
  have hz4 := h4.size
  have l0 : w.heap.size < w4.heap.size := by omega
  have l1 : w.heap.size + 1 < w4.heap.size := by omega
  have l2 : w.heap.size + 1 + 1 < w4.heap.size := by omega
  have l3 : w.heap.size + 1 + 1 + 1 < w4.heap.size := by omega
  have hob : w.heap.size ≤ w.heap.size + 1 + 1 + 1 := by omega
  generalize w.heap.size + 1 + 1 + 1 = o at HO l3 hob ⊢
  generalize w.heap.size + 1 + 1 = b at HQ l2 ⊢
  generalize w.heap.size + 1 = a at HP p0 p1 p2 l1 ⊢
  clear hm h4 hi hz4 hu hdl hd hr hA
  go_wp2_with fail
  refine (used_any w4 c A n k HDL.out).mono ?_
  rintro e w5 ⟨rfl, oo, hw5⟩
  rw [HU.out]
  have hb5 : Below w4.heap.size w4 w5 := by rw [hw5]; exact (Below.refl _ _).alloc (Nat.le_refl _) _
  clear hw5
  have B5 := hide hb5
  have O5 := hide (HO.out.below hb5 l3)
  have X5 := hide (HX.out.below hb5 l0)
  have y0 := X5.out.cell 0
  have y1 := X5.out.cell 1
  have y2 := X5.out.cell 2
  have y3 := X5.out.cell 3
  have y4 := X5.out.cell 4
  have y5 := X5.out.cell 5
  have y6 := X5.out.cell 6
  have y7 := X5.out.cell 7
  simp [cells] at y0 y1 y2 y3 y4 y5 y6 y7
  have M5 := hide ((HM.out.below hb5).up hb5.size)
  have D5 := hide ((HD.out.below hb5).up hb5.size)
  have R5 := hide ((HR.out.below hb5).up hb5.size)
  have P5 := hide (HP.out.below hb5 l1)
  have Q5 := hide (HQ.out.below hb5 l2)
  have hz5 : w4.heap.size ≤ w5.heap.size := hb5.size
  clear hb5
  go_wp2_with fail
  refine (chA_some w5 m c r A0 n0 c0 vs A n k A' n' k' a b HI.out M5.out D5.out R5.out P5.out Q5.out m1 HA.out).mono ?_
  rintro e w6 ⟨hb6, hres⟩
  obtain ⟨s, A2, n2, c2, vs2, rfl, hst⟩ := hres
  have O6 := hide (O5.out.below hb6 (by omega))
  have OO := hide (OutSt.mk ((H4.out.trans (B5.out.mono H4.out.size)).trans (hb6.mono (by have := H4.out.size; omega))) O6.out (hst.lower (B' := w.heap.size) (by have := H4.out.size; omega)))
  clear hb6 hst y0 y1 y2 y3 y4 y5 y6 y7
  have y0 := O6.out.cell 0
  have y1 := O6.out.cell 1
  have y2 := O6.out.cell 2
  have y3 := O6.out.cell 3
  have y4 := O6.out.cell 4
  have y5 := O6.out.cell 5
  have y6 := O6.out.cell 6
  have y7 := O6.out.cell 7
  have g0 := O6.out.frozen 0
  have g1 := O6.out.frozen 1
  have g2 := O6.out.frozen 2
  have g3 := O6.out.frozen 3
  have g4 := O6.out.frozen 4
  have g5 := O6.out.frozen 5
  have g6 := O6.out.frozen 6
  have g7 := O6.out.frozen 7
  simp [zcells, cells, MS.zero] at y0 y1 y2 y3 y4 y5 y6 y7
  unfold cells
  go_wp2_with fail
  have DD := ((((((((OO.out.set_ hob 0 (.int .i64 m1.base)).set_ hob 1 (.int .i64 m1.first)).set_ hob 2 (.int .i64 m1.durable)).set_ hob 3 (.int .i64 m1.next)).set_ hob 4 (.int .i64 m1.limit)).set_ hob 5 (.slice A2 n2 c2)).set_ hob 6 (.bool m1.failed)).set_ hob 7 (.bool m1.closed))
  generalize World.setCell _ _ _ = w7 at DD ⊢
  have v0 := DD.out.cell 0
  have v1 := DD.out.cell 1
  have v2 := DD.out.cell 2
  have v3 := DD.out.cell 3
  have v4 := DD.out.cell 4
  have v5 := DD.out.cell 5
  have v6 := DD.out.cell 6
  have v7 := DD.out.cell 7
  simp [zcells, cells, MS.zero] at v0 v1 v2 v3 v4 v5 v6 v7
  exact bodyPost_ret (v := .tuple #[.agg (cells m1 (.slice A2 n2 c2)), .bool true]) (by simp [results, Try.results8, go_sem, v0, v1, v2, v3, v4, v5, v6, v7, cells]) rfl ⟨DD.below, s, A2, n2, c2, vs2, rfl, DD.st⟩

set_option maxHeartbeats 1000000 in
theorem hf_not (w : World) (m : MS) (c : CM) (A0 : Option Addr) (n0 c0 : Nat) (vs : List Value) (A : Option Addr) (n k : Nat) (hi : m.Inv)
    (hm : RecsR w w.heap.size A0 n0 c0 vs m.recs) (hd : Byt w w.heap.size A n k c.data) (hu : decide (MS.used c) = false) :
    Calls Try.prog 7 #[.agg (cells m (.slice A0 n0 c0)), callV c A n k] w (ChgPost w none) := by
  have hmf : ∀ (fn : Fn) (first cap : Array Value) (w : World), (Instr.makeFunc fn first cap).run Try.prog w = .ok (.func fn first cap) w := fun _ _ _ _ => rfl
  have h4 := pre2 w m (.slice A0 n0 c0) (.int .i64 c.kind) (.int .i64 c.lsn) (.slice A n k)
  have hdl := hd.1.1
  simp at hdl
  unfold cells zcells MS.zero cells at h4
  simp only at h4
  unfold callV cells
  go_enter Try.func7, Try.ntmps7
  go_upto_region 1 with (fail)
  generalize ((w.alloc _).alloc _).alloc _ = w4 at h4 ⊢
  have HU := hide hu
  have HDL := hide hdl
  have H4 := hide h4.below
  have HI := hide hi
  have HM := hide ((hm.below h4.below).up h4.below.size)
  have HD := hide ((hd.below h4.below).up h4.below.size)
  have HP := hide h4.p
  have HO := hide h4.out
  have HX := hide h4.box
  have p0 := h4.p.cell 0; have p1 := h4.p.cell 1; have p2 := h4.p.cell 2
  simp at p0 p1 p2
  have hz4 := h4.size
  have l0 : w.heap.size < w4.heap.size := by omega
  have l1 : w.heap.size + 1 < w4.heap.size := by omega
  have l2 : w.heap.size + 1 + 1 < w4.heap.size := by omega
  have hob : w.heap.size ≤ w.heap.size + 1 + 1 := by omega
  generalize w.heap.size + 1 + 1 = o at HO l2 hob ⊢
  generalize w.heap.size + 1 = a at HP p0 p1 p2 l1 ⊢
  clear hm h4 hi hz4 hu hdl hd  
  go_wp2_with fail
  refine (used_any w4 c A n k HDL.out).mono ?_
  rintro e w5 ⟨rfl, oo, hw5⟩
  rw [HU.out]
  have hb5 : Below w4.heap.size w4 w5 := by rw [hw5]; exact (Below.refl _ _).alloc (Nat.le_refl _) _
  clear hw5
  have B5 := hide hb5
  have O5 := hide (HO.out.below hb5 l2)
  have X5 := hide (HX.out.below hb5 l0)
  have y0 := O5.out.cell 0
  have y1 := O5.out.cell 1
  have y2 := O5.out.cell 2
  have y3 := O5.out.cell 3
  have y4 := O5.out.cell 4
  have y5 := O5.out.cell 5
  have y6 := O5.out.cell 6
  have y7 := O5.out.cell 7
  have g0 := O5.out.frozen 0
  have g1 := O5.out.frozen 1
  have g2 := O5.out.frozen 2
  have g3 := O5.out.frozen 3
  have g4 := O5.out.frozen 4
  have g5 := O5.out.frozen 5
  have g6 := O5.out.frozen 6
  have g7 := O5.out.frozen 7
  simp [zcells, cells, MS.zero] at y0 y1 y2 y3 y4 y5 y6 y7
  have OO := hide (Out.mk (H4.out.trans (hb5.mono H4.out.size)) O5.out)
  clear hb5
  go_wp2_with fail
  have DD := ((((((((OO.out.set_ hob 0 (.int .i64 0)).set_ hob 1 (.int .i64 0)).set_ hob 2 (.int .i64 0)).set_ hob 3 (.int .i64 0)).set_ hob 4 (.int .i64 0)).set_ hob 5 (.slice none 0 0)).set_ hob 6 (.bool false)).set_ hob 7 (.bool false))
  generalize World.setCell _ _ _ = w6 at DD ⊢
  have v0 := DD.out.cell 0
  have v1 := DD.out.cell 1
  have v2 := DD.out.cell 2
  have v3 := DD.out.cell 3
  have v4 := DD.out.cell 4
  have v5 := DD.out.cell 5
  have v6 := DD.out.cell 6
  have v7 := DD.out.cell 7
  simp [zcells, cells, MS.zero] at v0 v1 v2 v3 v4 v5 v6 v7
  exact bodyPost_ret (v := .tuple #[.agg zcells, .bool false]) (by simp [results, Try.results7, go_sem, v0, v1, v2, v3, v4, v5, v6, v7, zcells, cells, MS.zero]) rfl ⟨DD.below, rfl⟩

set_option maxHeartbeats 1000000 in
theorem hf_none (w : World) (m : MS) (c : CM) (A0 : Option Addr) (n0 c0 : Nat) (vs : List Value) (A : Option Addr) (n k : Nat) (hi : m.Inv)
    (hm : RecsR w w.heap.size A0 n0 c0 vs m.recs) (hd : Byt w w.heap.size A n k c.data) (hu : decide (MS.used c) = true) (hA : m.half1 c = none) :
    Calls Try.prog 7 #[.agg (cells m (.slice A0 n0 c0)), callV c A n k] w (ChgPost w none) := by
  have hmf : ∀ (fn : Fn) (first cap : Array Value) (w : World), (Instr.makeFunc fn first cap).run Try.prog w = .ok (.func fn first cap) w := fun _ _ _ _ => rfl
  have h4 := pre2 w m (.slice A0 n0 c0) (.int .i64 c.kind) (.int .i64 c.lsn) (.slice A n k)
  have hdl := hd.1.1
  simp at hdl
  unfold cells zcells MS.zero cells at h4
  simp only at h4
  unfold callV cells
  go_enter Try.func7, Try.ntmps7
  go_upto_region 1 with (fail)
  generalize ((w.alloc _).alloc _).alloc _ = w4 at h4 ⊢
  have HU := hide hu
  have HDL := hide hdl
  have H4 := hide h4.below
  have HI := hide hi
  have HA := hide hA
  have HM := hide ((hm.below h4.below).up h4.below.size)
  have HD := hide ((hd.below h4.below).up h4.below.size)
  have HP := hide h4.p
  have HO := hide h4.out
  have HX := hide h4.box
  have p0 := h4.p.cell 0; have p1 := h4.p.cell 1; have p2 := h4.p.cell 2
  simp at p0 p1 p2
  have hz4 := h4.size
  have l0 : w.heap.size < w4.heap.size := by omega
  have l1 : w.heap.size + 1 < w4.heap.size := by omega
  have l2 : w.heap.size + 1 + 1 < w4.heap.size := by omega
  have hob : w.heap.size ≤ w.heap.size + 1 + 1 := by omega
  generalize w.heap.size + 1 + 1 = o at HO l2 hob ⊢
  generalize w.heap.size + 1 = a at HP p0 p1 p2 l1 ⊢
  clear hm h4 hi hz4 hu hdl hd  hA
  go_wp2_with fail
  refine (used_any w4 c A n k HDL.out).mono ?_
  rintro e w5 ⟨rfl, oo, hw5⟩
  rw [HU.out]
  have hb5 : Below w4.heap.size w4 w5 := by rw [hw5]; exact (Below.refl _ _).alloc (Nat.le_refl _) _
  clear hw5
  have B5 := hide hb5
  have O5 := hide (HO.out.below hb5 l2)
  have X5 := hide (HX.out.below hb5 l0)
  have y0 := X5.out.cell 0
  have y1 := X5.out.cell 1
  have y2 := X5.out.cell 2
  have y3 := X5.out.cell 3
  have y4 := X5.out.cell 4
  have y5 := X5.out.cell 5
  have y6 := X5.out.cell 6
  have y7 := X5.out.cell 7
  simp [cells] at y0 y1 y2 y3 y4 y5 y6 y7
  have M5 := hide ((HM.out.below hb5).up hb5.size)
  have D5 := hide ((HD.out.below hb5).up hb5.size)
  have P5 := hide (HP.out.below hb5 l1)
  have hz5 : w4.heap.size ≤ w5.heap.size := hb5.size
  clear hb5
  go_wp2_with fail
  refine (chH_none w5 m c A0 n0 c0 vs A n k a HI.out M5.out D5.out P5.out HA.out).mono ?_
  rintro e w6 ⟨hb6, hres⟩
  simp only at hres
  subst hres
  have O6 := hide (O5.out.below hb6 (by omega))
  have OO := hide (Out.mk ((H4.out.trans (B5.out.mono H4.out.size)).trans (hb6.mono (by have := H4.out.size; omega))) O6.out)
  clear hb6 y0 y1 y2 y3 y4 y5 y6 y7
  have y0 := O6.out.cell 0
  have y1 := O6.out.cell 1
  have y2 := O6.out.cell 2
  have y3 := O6.out.cell 3
  have y4 := O6.out.cell 4
  have y5 := O6.out.cell 5
  have y6 := O6.out.cell 6
  have y7 := O6.out.cell 7
  have g0 := O6.out.frozen 0
  have g1 := O6.out.frozen 1
  have g2 := O6.out.frozen 2
  have g3 := O6.out.frozen 3
  have g4 := O6.out.frozen 4
  have g5 := O6.out.frozen 5
  have g6 := O6.out.frozen 6
  have g7 := O6.out.frozen 7
  simp [zcells, cells, MS.zero] at y0 y1 y2 y3 y4 y5 y6 y7
  unfold zcells cells MS.zero
  go_wp2_with fail
  have DD := ((((((((OO.out.set_ hob 0 (.int .i64 0)).set_ hob 1 (.int .i64 0)).set_ hob 2 (.int .i64 0)).set_ hob 3 (.int .i64 0)).set_ hob 4 (.int .i64 0)).set_ hob 5 (.slice none 0 0)).set_ hob 6 (.bool false)).set_ hob 7 (.bool false))
  generalize World.setCell _ _ _ = w7 at DD ⊢
  have v0 := DD.out.cell 0
  have v1 := DD.out.cell 1
  have v2 := DD.out.cell 2
  have v3 := DD.out.cell 3
  have v4 := DD.out.cell 4
  have v5 := DD.out.cell 5
  have v6 := DD.out.cell 6
  have v7 := DD.out.cell 7
  simp [zcells, cells, MS.zero] at v0 v1 v2 v3 v4 v5 v6 v7
  exact bodyPost_ret (v := .tuple #[.agg zcells, .bool false]) (by simp [results, Try.results7, go_sem, v0, v1, v2, v3, v4, v5, v6, v7, zcells, cells, MS.zero]) rfl ⟨DD.below, rfl⟩

set_option maxHeartbeats 1000000 in
theorem hf_some (w : World) (m : MS) (c : CM) (A0 : Option Addr) (n0 c0 : Nat) (vs : List Value) (A : Option Addr) (n k : Nat) (hi : m.Inv)
    (hm : RecsR w w.heap.size A0 n0 c0 vs m.recs) (hd : Byt w w.heap.size A n k c.data) (hu : decide (MS.used c) = true) (m1 : MS) (hA : m.half1 c = some m1) :
    Calls Try.prog 7 #[.agg (cells m (.slice A0 n0 c0)), callV c A n k] w (ChgPost w (some m1)) := by
  have hmf : ∀ (fn : Fn) (first cap : Array Value) (w : World), (Instr.makeFunc fn first cap).run Try.prog w = .ok (.func fn first cap) w := fun _ _ _ _ => rfl
  have h4 := pre2 w m (.slice A0 n0 c0) (.int .i64 c.kind) (.int .i64 c.lsn) (.slice A n k)
  have hdl := hd.1.1
  simp at hdl
  unfold cells zcells MS.zero cells at h4
  simp only at h4
  unfold callV cells
  go_enter Try.func7, Try.ntmps7
  go_upto_region 1 with (fail)
  generalize ((w.alloc _).alloc _).alloc _ = w4 at h4 ⊢
  have HU := hide hu
  have HDL := hide hdl
  have H4 := hide h4.below
  have HI := hide hi
  have HA := hide hA
  have HM := hide ((hm.below h4.below).up h4.below.size)
  have HD := hide ((hd.below h4.below).up h4.below.size)
  have HP := hide h4.p
  have HO := hide h4.out
  have HX := hide h4.box
  have p0 := h4.p.cell 0; have p1 := h4.p.cell 1; have p2 := h4.p.cell 2
  simp at p0 p1 p2
  have hz4 := h4.size
  have l0 : w.heap.size < w4.heap.size := by omega
  have l1 : w.heap.size + 1 < w4.heap.size := by omega
  have l2 : w.heap.size + 1 + 1 < w4.heap.size := by omega
  have hob : w.heap.size ≤ w.heap.size + 1 + 1 := by omega
  generalize w.heap.size + 1 + 1 = o at HO l2 hob ⊢
  generalize w.heap.size + 1 = a at HP p0 p1 p2 l1 ⊢
  clear hm h4 hi hz4 hu hdl hd  hA
  go_wp2_with fail
  refine (used_any w4 c A n k HDL.out).mono ?_
  rintro e w5 ⟨rfl, oo, hw5⟩
  rw [HU.out]
  have hb5 : Below w4.heap.size w4 w5 := by rw [hw5]; exact (Below.refl _ _).alloc (Nat.le_refl _) _
  clear hw5
  have B5 := hide hb5
  have O5 := hide (HO.out.below hb5 l2)
  have X5 := hide (HX.out.below hb5 l0)
  have y0 := X5.out.cell 0
  have y1 := X5.out.cell 1
  have y2 := X5.out.cell 2
  have y3 := X5.out.cell 3
  have y4 := X5.out.cell 4
  have y5 := X5.out.cell 5
  have y6 := X5.out.cell 6
  have y7 := X5.out.cell 7
  simp [cells] at y0 y1 y2 y3 y4 y5 y6 y7
  have M5 := hide ((HM.out.below hb5).up hb5.size)
  have D5 := hide ((HD.out.below hb5).up hb5.size)
  have P5 := hide (HP.out.below hb5 l1)
  have hz5 : w4.heap.size ≤ w5.heap.size := hb5.size
  clear hb5
  go_wp2_with fail
  refine (chH_some w5 m c A0 n0 c0 vs A n k a HI.out M5.out D5.out P5.out m1 HA.out).mono ?_
  rintro e w6 ⟨hb6, hres⟩
  obtain ⟨s, A2, n2, c2, vs2, rfl, hst⟩ := hres
  have O6 := hide (O5.out.below hb6 (by omega))
  have OO := hide (OutSt.mk ((H4.out.trans (B5.out.mono H4.out.size)).trans (hb6.mono (by have := H4.out.size; omega))) O6.out (hst.lower (B' := w.heap.size) (by have := H4.out.size; omega)))
  clear hb6 hst y0 y1 y2 y3 y4 y5 y6 y7
  have y0 := O6.out.cell 0
  have y1 := O6.out.cell 1
  have y2 := O6.out.cell 2
  have y3 := O6.out.cell 3
  have y4 := O6.out.cell 4
  have y5 := O6.out.cell 5
  have y6 := O6.out.cell 6
  have y7 := O6.out.cell 7
  have g0 := O6.out.frozen 0
  have g1 := O6.out.frozen 1
  have g2 := O6.out.frozen 2
  have g3 := O6.out.frozen 3
  have g4 := O6.out.frozen 4
  have g5 := O6.out.frozen 5
  have g6 := O6.out.frozen 6
  have g7 := O6.out.frozen 7
  simp [zcells, cells, MS.zero] at y0 y1 y2 y3 y4 y5 y6 y7
  unfold cells
  go_wp2_with fail
  have DD := ((((((((OO.out.set_ hob 0 (.int .i64 m1.base)).set_ hob 1 (.int .i64 m1.first)).set_ hob 2 (.int .i64 m1.durable)).set_ hob 3 (.int .i64 m1.next)).set_ hob 4 (.int .i64 m1.limit)).set_ hob 5 (.slice A2 n2 c2)).set_ hob 6 (.bool m1.failed)).set_ hob 7 (.bool m1.closed))
  generalize World.setCell _ _ _ = w7 at DD ⊢
  have v0 := DD.out.cell 0
  have v1 := DD.out.cell 1
  have v2 := DD.out.cell 2
  have v3 := DD.out.cell 3
  have v4 := DD.out.cell 4
  have v5 := DD.out.cell 5
  have v6 := DD.out.cell 6
  have v7 := DD.out.cell 7
  simp [zcells, cells, MS.zero] at v0 v1 v2 v3 v4 v5 v6 v7
  exact bodyPost_ret (v := .tuple #[.agg (cells m1 (.slice A2 n2 c2)), .bool true]) (by simp [results, Try.results7, go_sem, v0, v1, v2, v3, v4, v5, v6, v7, cells]) rfl ⟨DD.below, s, A2, n2, c2, vs2, rfl, DD.st⟩

theorem apply_any (w : World) (m : MS) (c : CM) (r : RM) (A0 : Option Addr) (n0 c0 : Nat) (vs : List Value) (A : Option Addr) (n k : Nat) (A' : Option Addr) (n' k' : Nat) (hi : m.Inv)
    (hm : RecsR w w.heap.size A0 n0 c0 vs m.recs) (hd : Byt w w.heap.size A n k c.data) (hr : Byt w w.heap.size A' n' k' r.data) :
    Calls Try.prog 8 #[.agg (cells m (.slice A0 n0 c0)), callV c A n k, resV r A' n' k'] w (ChgPost w (m.apply c r)) := by
  unfold MS.apply
  by_cases hu : MS.used c
  · rw [if_pos hu]
    have hu' : decide (MS.used c) = true := by simpa using hu
    cases hA : m.apply1 c r with
    | none => exact ap_none w m c r A0 n0 c0 vs A n k A' n' k' hi hm hd hr hu' hA
    | some m1 => exact ap_some w m c r A0 n0 c0 vs A n k A' n' k' hi hm hd hr hu' m1 hA
  · rw [if_neg hu]
    exact ap_not w m c r A0 n0 c0 vs A n k A' n' k' hi hm hd hr (by simpa using hu)

theorem half_any (w : World) (m : MS) (c : CM) (A0 : Option Addr) (n0 c0 : Nat) (vs : List Value) (A : Option Addr) (n k : Nat) (hi : m.Inv)
    (hm : RecsR w w.heap.size A0 n0 c0 vs m.recs) (hd : Byt w w.heap.size A n k c.data) :
    Calls Try.prog 7 #[.agg (cells m (.slice A0 n0 c0)), callV c A n k] w (ChgPost w (m.half c)) := by
  unfold MS.half
  by_cases hu : MS.used c
  · rw [if_pos hu]
    have hu' : decide (MS.used c) = true := by simpa using hu
    cases hA : m.half1 c with
    | none => exact hf_none w m c A0 n0 c0 vs A n k hi hm hd hu' hA
    | some m1 => exact hf_some w m c A0 n0 c0 vs A n k hi hm hd hu' m1 hA
  · rw [if_neg hu]
    exact hf_not w m c A0 n0 c0 vs A n k hi hm hd (by simpa using hu)

theorem new_ok (base : Int) (w : World) (hb : 1 ≤ base) :
    Calls Try.prog 6 #[.int .i64 base] w fun e w' => e = .returned (.tuple #[.agg (cells (MS.new base) (.slice none 0 0)), .int .i64 0]) ∧ Below w.heap.size w w' := by
  go_enter Try.func6, Try.ntmps6
  go_wp2
  exact bodyPost_ret (v := .tuple #[.agg (cells (MS.new base) (.slice none 0 0)), .int .i64 0]) (by simp [results, Try.results6, go_sem, cells, MS.new, top]) rfl ⟨rfl, (Below.refl _ _).alloc (Nat.le_refl _) _⟩
theorem new_no (base : Int) (w : World) (hb : base < 1) :
    Calls Try.prog 6 #[.int .i64 base] w fun e w' => e = .returned (.tuple #[.agg zcells, .int .i64 1]) ∧ Below w.heap.size w w' := by
  go_enter Try.func6, Try.ntmps6
  go_wp2
  exact bodyPost_ret (v := .tuple #[.agg zcells, .int .i64 1]) (by simp [results, Try.results6, go_sem, cells, zcells, MS.zero]) rfl ⟨rfl, (Below.refl _ _).alloc (Nat.le_refl _) _⟩

set_option maxHeartbeats 1000000 in
set_option maxRecDepth 100000 in
theorem same_len (w : World) (m m' : MS) (A A' : Option Addr) (n c n' c' : Nat) (hn : ((n : Int) == n') = false) :
    Calls Try.prog 9 #[.agg (cells m (.slice A n c)), .agg (cells m' (.slice A' n' c'))] w fun e w' => e = .returned (.bool false) ∧ Below w.heap.size w w' := by
  unfold cells
  go_enter Try.func9, Try.ntmps9
  go_wp2
  go_ret
  exact ⟨rfl, ((Below.refl _ _).alloc (Nat.le_refl _) _).alloc (by simp) _⟩
set_option maxHeartbeats 1000000 in
set_option maxRecDepth 100000 in
theorem same_self (w : World) (m : MS) (A A' : Option Addr) (c c' : Nat) :
    Calls Try.prog 9 #[.agg (cells m (.slice A 0 c)), .agg (cells m (.slice A' 0 c'))] w fun e w' => e = .returned (.bool true) ∧ Below w.heap.size w w' := by
  have hp : Blk ((w.alloc (.cells (cells m (.slice A 0 c)) 26)).alloc (.cells (cells m (.slice A' 0 c')) 26)) w.heap.size 26 (cells m (.slice A 0 c)) := (Blk.new _ _ _).alloc _
  have hq : Blk ((w.alloc (.cells (cells m (.slice A 0 c)) 26)).alloc (.cells (cells m (.slice A' 0 c')) 26)) (w.heap.size + 1) 26 (cells m (.slice A' 0 c')) := by
    have := Blk.new (w.alloc (.cells (cells m (.slice A 0 c)) 26)) 26 (cells m (.slice A' 0 c'))
    simpa using this
  have hb : Below w.heap.size w ((w.alloc (.cells (cells m (.slice A 0 c)) 26)).alloc (.cells (cells m (.slice A' 0 c')) 26)) := ((Below.refl _ _).alloc (Nat.le_refl _) _).alloc (by simp) _
  unfold cells at hp hq hb ⊢
  go_enter Try.func9, Try.ntmps9
  go_upto_region 1 with (fail)
  generalize (w.alloc _).alloc _ = w2 at hp hq hb ⊢
  have p0 := hp.cell 0; have q0 := hq.cell 0
  have p1 := hp.cell 1; have q1 := hq.cell 1
  have p2 := hp.cell 2; have q2 := hq.cell 2
  have p3 := hp.cell 3; have q3 := hq.cell 3
  have p4 := hp.cell 4; have q4 := hq.cell 4
  have p5 := hp.cell 5; have q5 := hq.cell 5
  have p6 := hp.cell 6; have q6 := hq.cell 6
  have p7 := hp.cell 7; have q7 := hq.cell 7
  simp at p0 q0 p1 q1 p2 q2 p3 q3 p4 q4 p5 q5 p6 q6 p7 q7
  have HB := hide hb
  clear hp hq hb
  go_wp2
  go_loop [16] (fun i => i = .int .i64 0) (fun _ => 0)
  case atStart => exact rfl
  case round =>
    subst hrel
    go_wp2
    go_ret
    exact ⟨rfl, HB.out⟩
end Go.Proofs.Ytemllidcnamlmaa
