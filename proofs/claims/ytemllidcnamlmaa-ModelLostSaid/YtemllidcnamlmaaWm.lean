/- The walk of begun. -/
import Derived.Test.YtemllidcnamlmaaWl
import Derived.Lib.SlBytesConst
namespace Go.Proofs.Ytemllidcnamlmaa
open Go.RowKit

theorem RecsR.none_ (w : World) (B : Nat) (A : Option Addr) (c : Nat) : RecsR w B A 0 c [] [] := ⟨⟨rfl, fun h => absurd h (by omega)⟩, Nat.zero_le _, rfl, fun i x l h => by simp at h⟩
theorem Byt.none_ (w : World) (B : Nat) (A : Option Addr) (c : Nat) : Byt w B A 0 c [] := ⟨⟨rfl, fun h => absurd h (by omega)⟩, Nat.zero_le _⟩
theorem Byt.one_mark (w : World) (x : Int) (fz : Nat × Nat) : Byt (w.alloc (.cells #[.int .u8 x] 5 fz)) (w.heap.size + 1) (some ⟨w.heap.size, 0, none⟩) 1 1 [x] := by
  refine ⟨⟨rfl, fun _ => ⟨_, rfl, by simp, fun j u hu => ?_⟩⟩, Nat.le_refl _⟩
  have hadd : (⟨w.heap.size, 0, none⟩ : Addr).add j = ⟨w.heap.size, j, none⟩ := by unfold Addr.add; split <;> simp_all
  rw [hadd, cell_of_row _ w.heap.size j #[.int .u8 x] 5 fz (heap_alloc_new w _)]
  simpa using hu

theorem Byt.one_mark2 (w0 : World) (o : Obj) (x : Int) (fz : Nat × Nat) : Byt ((w0.alloc o).alloc (.cells #[.int .u8 x] 5 fz)) ((w0.alloc o).alloc (.cells #[.int .u8 x] 5 fz)).heap.size (some ⟨w0.heap.size + 1, 0, none⟩) 1 1 [x] := by
  have := Byt.one_mark (w0.alloc o) x fz
  simpa using this
theorem own_n {w : World} {B n k c : Nat} {e : TypeId} {A : Option Addr} {xs : List Value} (h : w.ownsRow B e 1 (.slice A n c) k xs) : n = k := by
  rcases h.2 with ⟨h1, h2⟩ | ⟨g, cap, cur, h1, _⟩
  · injection h1 with _ h3 _; omega
  · injection h1

theorem St.reads' {w : World} {B s : Nat} {m : MS} {A : Option Addr} {n c : Nat} {vs : List Value} (h : St w B s m (.slice A n c) vs) : RecsR w w.heap.size A n c vs m.recs := by
  obtain ⟨A', n', c', e, hr⟩ := h.reads
  injection e with e1 e2 e3
  subst e1 e2 e3
  exact hr
theorem RecsR.alloc {w : World} {A : Option Addr} {n c : Nat} {vs : List Value} {rs : List (List Int)} (h : RecsR w w.heap.size A n c vs rs) (o : Obj) : RecsR (w.alloc o) (w.alloc o).heap.size A n c vs rs :=
  (h.below ((Below.refl _ _).alloc (Nat.le_refl _) _)).up (by simp)

theorem MS.new_inv {b : Int} (h1 : 1 ≤ b) (h2 : b ≤ top) : (MS.new b).Inv :=
  ⟨h1, Int.le_refl _, Int.le_refl _, Int.le_refl _, h2, h2, Int.le_refl _, by simp [MS.new], by simp [MS.new], by simp [MS.new]⟩


def bm1 : MS := ⟨1, 1, 1, 2, top, [[97]], false, false⟩
def bm2 : MS := ⟨1, 1, 2, 2, top, [[97]], false, false⟩
def bmh : MS := ⟨1, 1, 1, 2, top, [[]], false, false⟩
theorem b_ap1 : (MS.new 1).apply ⟨2, 0, [97]⟩ ⟨0, 1, []⟩ = some bm1 := by rfl
theorem b_ap2 : bm1.apply ⟨4, 1, []⟩ ⟨0, 1, [97]⟩ = some bm2 := by simp [MS.apply, MS.used, MS.apply1, MS.answer, MS.reads, MS.read, bm1, MS.nth, eqB, MS.raise, bm2, top]; decide
theorem b_ap3 : bm2.apply ⟨4, 1, []⟩ ⟨42, 0, []⟩ = none := by rfl
theorem b_hf : (MS.new 1).half ⟨1, 0, []⟩ = some bmh := by rfl
theorem b_inv1 : bm1.Inv := ⟨by decide, by decide, by decide, by decide, by decide, by decide, by decide, by decide, by decide, by decide⟩
theorem b_inv2 : bm2.Inv := ⟨by decide, by decide, by decide, by decide, by decide, by decide, by decide, by decide, by decide, by decide⟩

set_option maxHeartbeats 4000000 in
set_option maxRecDepth 100000 in
theorem begun_any (w : World) : Calls Try.prog 5 #[] w fun e w' => e = .returned (.bool true) ∧ Below w.heap.size w w' := by
  have kc := fun (w : World) (C : Array Value) (n c : Nat) => Lib.run_convert_bytes_const (P := Try.prog) w 30 5 C n c Try.underlying30 Try.underlying5
  have kc1 : ∀ (w0 : World) (o : Obj) (C : Array Value) (n c : Nat), (convert 30 30 (.slice (some ⟨w0.heap.size + 1, 0, none⟩) n c)).run Try.prog ((w0.alloc o).alloc (.cells C 5)) = .ok (.slice (some ⟨w0.heap.size + 1, 0, none⟩) n c) ((w0.alloc o).alloc (.cells C 5 (C.size, C.size + 1))) := fun w0 o C n c => by
    have := kc (w0.alloc o) C n c
    simpa using this
  clear kc
  go_enter Try.func5, Try.ntmps5
  go_wp2_with fail
  refine (new_ok 1 w (by omega)).mono ?_
  rintro e w1 ⟨rfl, hb1⟩
  have HB1 := hide hb1
  clear hb1
  unfold cells MS.new
  go_wp2_with fail
  have hap := apply_any ((w1.alloc (.cells (cells (MS.new 1) (.slice none 0 0)) 26)).alloc (.cells #[.int .u8 97] 5 (1, 2))) (MS.new 1) ⟨2, 0, [97]⟩ ⟨0, 1, []⟩ none 0 0 [] (some ⟨w1.heap.size + 1, 0, none⟩) 1 1 none 0 0 (MS.new_inv (by decide) (by decide)) (RecsR.none_ _ _ _ _) (Byt.one_mark2 _ _ _ _) (Byt.none_ _ _ _ _)
  rw [b_ap1] at hap
  refine hap.mono ?_
  clear hap
  rintro e w2 ⟨hb2, s2, A2, n2, c2, vs2, rfl, hst2⟩
  obtain rfl : n2 = 1 := own_n hst2.row
  have hM := ((Blk.new w1 26 (cells (MS.new 1) (.slice none 0 0))).alloc (.cells #[.int .u8 97] 5 (1, 2))).below hb2 (by simp; omega)
  have HM := hide hM
  have HB2 := hide ((((HB1.out.alloc HB1.out.size _).alloc (by simp; have := HB1.out.size; omega) _)).trans (hb2.mono (by simp; have := HB1.out.size; omega)))
  have hl1 : w1.heap.size < w2.heap.size := hM.lt
  clear hb2 hM
  generalize w1.heap.size = b1 at HM hl1 ⊢
  have HST2 := hide hst2
  clear hst2
  unfold cells bm1
  go_wp2_with fail
  have hap := apply_any ((w2.alloc (.cells (cells bm1 (.slice A2 1 c2)) 26)).alloc (.cells #[.int .u8 97] 5 (1, 2))) bm1 ⟨4, 1, []⟩ ⟨0, 1, [97]⟩ A2 1 c2 vs2 none 0 0 (some ⟨w2.heap.size + 1, 0, none⟩) 1 1 b_inv1 ((HST2.out.reads'.alloc _).alloc _) (Byt.none_ _ _ _ _) (Byt.one_mark2 _ _ _ _)
  rw [b_ap2] at hap
  refine hap.mono ?_
  clear hap
  rintro e w3 ⟨hb3, s3, A3, n3, c3, vs3, rfl, hst3⟩
  obtain rfl : n3 = 1 := own_n hst3.row
  have HM3 := hide (((HM.out.alloc (.cells (cells bm1 (.slice A2 1 c2)) 26)).alloc (.cells #[.int .u8 97] 5 (1, 2))).below hb3 (by simp; omega))
  have hN := ((Blk.new w2 26 (cells bm1 (.slice A2 1 c2))).alloc (.cells #[.int .u8 97] 5 (1, 2))).below hb3 (by simp; omega)
  have HN3 := hide hN
  have hz3 := hb3.size
  simp only [World.size_alloc] at hz3
  have HB3 := hide ((((HB2.out.alloc HB2.out.size _).alloc (by simp; have := HB2.out.size; omega) _)).trans (hb3.mono (by simp; have := HB2.out.size; omega)))
  have hl3 : w2.heap.size < w3.heap.size := hN.lt
  have hl13 : b1 < w3.heap.size := by omega
  clear hb3 hN hz3 hl1
  generalize w2.heap.size = b3 at HN3 hl3 ⊢
  have HST3 := hide hst3
  clear hst3 HM HST2 HB2 HB1
  unfold cells bm2
  go_wp2_with fail
  have hap := apply_any (w3.alloc (.cells (cells bm2 (.slice A3 1 c3)) 26)) bm2 ⟨4, 1, []⟩ ⟨42, 0, []⟩ A3 1 c3 vs3 none 0 0 none 0 0 b_inv2 (HST3.out.reads'.alloc _) (Byt.none_ _ _ _ _) (Byt.none_ _ _ _ _)
  rw [b_ap3] at hap
  refine hap.mono ?_
  clear hap
  rintro e w4 ⟨hb4, hres⟩
  simp only at hres
  subst hres
  have hz4 := hb4.size
  simp only [World.size_alloc] at hz4
  have HM4 := hide ((HM3.out.alloc (.cells (cells bm2 (.slice A3 1 c3)) 26)).below hb4 (by simp; omega))
  have HN4 := hide ((HN3.out.alloc (.cells (cells bm2 (.slice A3 1 c3)) 26)).below hb4 (by simp; omega))
  have hO := (Blk.new w3 26 (cells bm2 (.slice A3 1 c3))).below hb4 (by simp)
  have HO4 := hide hO
  have HB4 := hide ((HB3.out.alloc HB3.out.size _).trans (hb4.mono (by simp; have := HB3.out.size; omega)))
  have hl5 : w3.heap.size < w4.heap.size := hO.lt
  have hl14 : b1 < w4.heap.size := by omega
  have hl34 : b3 < w4.heap.size := by omega
  clear hb4 hO hz4 hl13 hl3
  generalize w3.heap.size = b5 at HO4 hl5 ⊢
  clear HM3 HN3 HST3 HB3
  have x0 := fun o => (HM4.out.alloc o).cell 0
  have x1 := fun o => (HM4.out.alloc o).cell 1
  have x2 := fun o => (HM4.out.alloc o).cell 2
  have x3 := fun o => (HM4.out.alloc o).cell 3
  have x4 := fun o => (HM4.out.alloc o).cell 4
  have x5 := fun o => (HM4.out.alloc o).cell 5
  have x6 := fun o => (HM4.out.alloc o).cell 6
  have x7 := fun o => (HM4.out.alloc o).cell 7
  simp [cells, MS.new] at x0 x1 x2 x3 x4 x5 x6 x7
  unfold zcells cells MS.zero
  go_wp2_with fail
  have hap := half_any (w4.alloc (.cells zcells 26)) (MS.new 1) ⟨1, 0, []⟩ none 0 0 [] none 0 0 (MS.new_inv (by decide) (by decide)) (RecsR.none_ _ _ _ _) (Byt.none_ _ _ _ _)
  rw [b_hf] at hap
  refine hap.mono ?_
  clear hap
  rintro e w5 ⟨hb5, s5, A5, n5, c5, vs5, rfl, hst5⟩
  have hz5 := hb5.size
  simp only [World.size_alloc] at hz5
  have HM5 := hide ((HM4.out.alloc (.cells zcells 26)).below hb5 (by simp; omega))
  have HN5 := hide ((HN4.out.alloc (.cells zcells 26)).below hb5 (by simp; omega))
  have HO5 := hide ((HO4.out.alloc (.cells zcells 26)).below hb5 (by simp; omega))
  have HB5 := hide ((HB4.out.alloc HB4.out.size _).trans (hb5.mono (by simp; have := HB4.out.size; omega)))
  have hl15 : b1 < w5.heap.size := by omega
  have hl35 : b3 < w5.heap.size := by omega
  have hl55 : b5 < w5.heap.size := by omega
  clear hb5 hz5 hl14 hl34 hl5 hst5 HM4 HN4 HO4 HB4 x0 x1 x2 x3 x4 x5 x6 x7
  have x0 := fun o => (HM5.out.alloc o).cell 0
  have x1 := fun o => (HM5.out.alloc o).cell 1
  have x2 := fun o => (HM5.out.alloc o).cell 2
  have x3 := fun o => (HM5.out.alloc o).cell 3
  have x4 := fun o => (HM5.out.alloc o).cell 4
  have x5 := fun o => (HM5.out.alloc o).cell 5
  have x6 := fun o => (HM5.out.alloc o).cell 6
  have x7 := fun o => (HM5.out.alloc o).cell 7
  have z3 := fun o => (HN5.out.alloc o).cell 3
  have v2 := fun o => (HO5.out.alloc o).cell 2
  simp [cells, MS.new, bm1, bm2] at z3 v2 x0 x1 x2 x3 x4 x5 x6 x7
  unfold cells bmh
  go_wp2_with fail
  have hz9 : w5.heap.size ≤ (w5.alloc (.cells (cells bmh (.slice A5 n5 c5)) 26)).heap.size := by simp
  have HM9 := hide (HM5.out.alloc (.cells (cells bmh (.slice A5 n5 c5)) 26))
  have HN9 := hide (HN5.out.alloc (.cells (cells bmh (.slice A5 n5 c5)) 26))
  have HB9 := hide (HB5.out.alloc HB5.out.size (.cells (cells bmh (.slice A5 n5 c5)) 26))
  clear z3 v2 x0 x1 x2 x3 x4 x5 x6 x7 HM5 HN5 HO5 HB5
  unfold cells bmh at hz9 HM9 HN9 HB9
  generalize w5.alloc _ = w9 at hz9 HM9 HN9 HB9 ⊢
  refine (same_self w9 (MS.new 1) none none 0 0).mono ?_
  rintro e w6 ⟨rfl, hb6⟩
  have hM6 := Blk.below HM9.out hb6 (by omega)
  have hN6 := Blk.below HN9.out hb6 (by omega)
  have HB6 := hide (HB9.out.trans (hb6.mono HB9.out.size))
  have x0 := hM6.cell 0; have y0 := hN6.cell 0
  have x1 := hM6.cell 1; have y1 := hN6.cell 1
  have x2 := hM6.cell 2; have y2 := hN6.cell 2
  have x3 := hM6.cell 3; have y3 := hN6.cell 3
  have x4 := hM6.cell 4; have y4 := hN6.cell 4
  have x5 := hM6.cell 5; have y5 := hN6.cell 5
  have x6 := hM6.cell 6; have y6 := hN6.cell 6
  have x7 := hM6.cell 7; have y7 := hN6.cell 7
  simp [MS.new, bm1] at x0 y0 x1 y1 x2 y2 x3 y3 x4 y4 x5 y5 x6 y6 x7 y7
  clear hM6 hN6 hb6 hz9
  go_wp2_with fail
  refine (same_len w6 (MS.new 1) bm1 none A2 0 0 1 c2 (by decide)).mono ?_
  rintro e w7 ⟨rfl, hb7⟩
  have HB7 := hide (HB6.out.trans (hb7.mono HB6.out.size))
  clear hb7 x0 y0 x1 y1 x2 y2 x3 y3 x4 y4 x5 y5 x6 y6 x7 y7
  go_wp2_with fail
  go_ret
  exact ⟨rfl, HB7.out⟩
end Go.Proofs.Ytemllidcnamlmaa
