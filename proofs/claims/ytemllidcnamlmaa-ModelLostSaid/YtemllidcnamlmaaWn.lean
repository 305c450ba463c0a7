/- The walk of ModelOrder. -/
import Derived.Test.YtemllidcnamlmaaWm
import Derived.Test.YtemllidcnamlmaaLaw
namespace Go.Proofs.Ytemllidcnamlmaa
open Go.RowKit

/-- An Op as it came in: its call and result, the slices of their data. -/
structure OpD where
  call : CM
  res : RM
  half : Bool
  stay : Bool
  dA : Option Addr
  dn : Nat
  dc : Nat
  rA : Option Addr
  rn : Nat
  rc : Nat
def opCells (d : OpD) : Array Value := #[.int .i64 d.call.kind, .int .i64 d.call.lsn, .slice d.dA d.dn d.dc, .int .i64 d.res.err, .int .i64 d.res.lsn, .slice d.rA d.rn d.rc, .bool d.half, .bool d.stay]

/-- A slice of Ops, read. -/
def OpsR (w : World) (B : Nat) (A : Option Addr) (n : Nat) (D : Nat → OpD) : Prop :=
  0 < n → ∃ b o, A = some ⟨b, o, none⟩ ∧ b < B ∧ ∀ i, i < n → (∀ (j : Nat) (v : Value), (opCells (D i))[j]? = some v → w.cell? ⟨b, o + i * 8 + j, none⟩ = some v) ∧
    Byt w B (D i).dA (D i).dn (D i).dc (D i).call.data ∧ Byt w B (D i).rA (D i).rn (D i).rc (D i).res.data

theorem OpsR.below {w w' : World} {B n : Nat} {A : Option Addr} {D : Nat → OpD} (h : OpsR w B A n D) (hb : Below B w w') : OpsR w' B A n D := fun hn => by
  obtain ⟨b, o, hA, hB, hi⟩ := h hn
  exact ⟨b, o, hA, hB, fun i hin => ⟨fun j v hj => by rw [hb.cell (p := ⟨b, _, none⟩) hB]; exact (hi i hin).1 j v hj, (hi i hin).2.1.below hb, (hi i hin).2.2.below hb⟩⟩

/-- A state's records in memory of the run's own. -/
structure Recs (w : World) (m : MS) (rv : Value) (vs : List Value) : Prop where
  row : w.ownsRow 0 30 1 rv m.recs.length vs
  one : ∀ (i : Nat) (x : Value) (l : List Int), vs[i]? = some x → m.recs[i]? = some l → w.ownsRow 0 5 1 x l.length (l.map (Value.int .u8))

theorem own_below {w w' : World} {B n : Nat} {e : TypeId} {v : Value} {xs : List Value} (h : w.ownsRow B e 1 v n xs) (hb : Below w.heap.size w w') : w'.ownsRow B e 1 v n xs := by
  refine ⟨h.1, ?_⟩
  rcases h.2 with hn | ⟨g, cap, cur, hv, hg, hh, r⟩
  · exact .inl hn
  · exact .inr ⟨g, cap, cur, hv, hg, (hb.block g (Blk.lt hh)).trans hh, r⟩
theorem Recs.below {w w' : World} {m : MS} {rv : Value} {vs : List Value} (h : Recs w m rv vs) (hb : Below w.heap.size w w') : Recs w' m rv vs :=
  ⟨own_below h.row hb, fun i x l hx hl => own_below (h.one i x l hx hl) hb⟩
theorem Recs.alloc {w : World} {m : MS} {rv : Value} {vs : List Value} (h : Recs w m rv vs) (o : Obj) : Recs (w.alloc o) m rv vs := h.below ((Below.refl _ _).alloc (Nat.le_refl _) _)
theorem Recs.set_ {w : World} {m : MS} {rv : Value} {vs : List Value} (h : Recs w m rv vs) {o : Nat} {t : TypeId} {cs : Array Value} (hb : Blk w o t cs) (h2 : t ≠ 30) (h3 : t ≠ 5) (i : Nat) (u : Value) : Recs (w.setCell ⟨o, i, none⟩ u) m rv vs :=
  ⟨own_set h.row hb (fun q => h2 q.symm) i u, fun j x l hx hl => own_set (h.one j x l hx hl) hb (fun q => h3 q.symm) i u⟩
theorem St.recs {w : World} {B s : Nat} {m : MS} {rv : Value} {vs : List Value} (h : St w B s m rv vs) : Recs w m rv vs :=
  ⟨ownsRow_mono h.row (Nat.zero_le _), fun i x l hx hl => ownsRow_mono (h.one i x l hx hl) (Nat.zero_le _)⟩
theorem Recs.nil (w : World) (b : Int) : Recs w (MS.new b) (.slice none 0 0) [] := ⟨World.ownsRow_nil _ _ _ _, fun i x l h => by simp at h⟩
theorem Recs.reads {w : World} {m : MS} {A : Option Addr} {n c : Nat} {vs : List Value} (h : Recs w m (.slice A n c) vs) : RecsR w w.heap.size A n c vs m.recs := by
  have hn : n = m.recs.length := own_n h.row
  subst hn
  refine ⟨Reads.of_own h.row, ?_, rfl, fun i x l hx hl => ?_⟩
  · rcases h.row.2 with ⟨h1, h2⟩ | ⟨g, cap, cur, h1, _, _, h4, _⟩
    · omega
    · injection h1 with _ _ h5; omega
  · have ho := h.one i x l hx hl
    obtain ⟨A', c', he⟩ := own_slice ho
    subst he
    exact ⟨A', _, c', rfl, Byt.own ho⟩

/-- What is so at a round's head: k Ops are done. -/
def OrdRel (W : World) (base : Int) (b : Nat) (n : Nat) (i : Value) (wr : World) : Prop :=
  ∃ (k : Nat) (m : MS) (A : Option Addr) (q c : Nat) (vs : List Value), k ≤ n ∧ k ≤ 80 ∧ i = .int .i64 k ∧ m.Inv ∧ m.base = base ∧ m.recs.length ≤ k ∧ Below W.heap.size W wr ∧ Blk wr b 26 (cells m (.slice A q c)) ∧ Recs wr m (.slice A q c) vs

theorem meas (n k : Nat) (h : k < n) : n - (intOf (Value.int .i64 ((k : Int) + 1))).toNat < n - (intOf (Value.int .i64 (k : Int))).toNat := by simp [intOf]; omega
theorem ordRel_mk {W wr : World} {base : Int} {b n k : Nat} {m : MS} {A : Option Addr} {q c : Nat} {vs : List Value} (h1 : k + 1 ≤ n) (h2 : k + 1 ≤ 80) (h3 : m.Inv) (h4 : m.base = base) (h5 : m.recs.length ≤ k + 1)
    (h6 : Below W.heap.size W wr ∧ Blk wr b 26 (cells m (.slice A q c)) ∧ Recs wr m (.slice A q c) vs) : OrdRel W base b n (.int .i64 ((k : Int) + 1)) wr :=
  ⟨k + 1, m, A, q, c, vs, h1, h2, by simp, h3, h4, h5, h6.1, h6.2.1, h6.2.2⟩
theorem notf {b : Bool} (h : (!b) = false) : b = true := by cases b <;> simp_all
theorem bad1 {a b : Bool} (H : a = true → b = true) (h : a = true) (h2 : ¬ b = true) : False := h2 (H h)
theorem bad2 {a b : Bool} (H : a = true → b = true) (h : a = true) (h2 : (!b) = true) : False := by rw [H h] at h2; cases h2
theorem bad3 {a b : Bool} (H : a = true → b = true) (h : a = true) (h2 : b = false) : False := by rw [H h] at h2; cases h2
theorem Blk.new2 (w : World) (o : Obj) (t : TypeId) (cs : Array Value) : Blk ((w.alloc o).alloc (.cells cs t)) (w.heap.size + 1) t cs := by
  have := Blk.new (w.alloc o) t cs
  simpa using this
/-- What a round has at hand: the state's variable b, the new state's t. -/
structure Trk (W w' : World) (b t : Nat) (cb ct : Array Value) (m : MS) (rv : Value) (vs : List Value) : Prop where
  below : Below W.heap.size W w'
  pb : Blk w' b 26 cb
  pt : Blk w' t 26 ct
  recs : Recs w' m rv vs
  ne : b ≠ t
  hb : W.heap.size ≤ b
  ht : W.heap.size ≤ t
theorem Trk.sett {W w' : World} {b t : Nat} {cb ct : Array Value} {m : MS} {rv : Value} {vs : List Value} (h : Trk W w' b t cb ct m rv vs) (i : Nat) (u : Value) : Trk W (w'.setCell ⟨t, i, none⟩ u) b t cb (ct.setIfInBounds i u) m rv vs :=
  ⟨h.below.setCell (p := ⟨t, i, none⟩) h.ht u, h.pb.far (p := ⟨t, i, none⟩) h.ne u, h.pt.set_ i u, h.recs.set_ h.pt (by decide) (by decide) i u, h.ne, h.hb, h.ht⟩
theorem Trk.setb {W w' : World} {b t : Nat} {cb ct : Array Value} {m : MS} {rv : Value} {vs : List Value} (h : Trk W w' b t cb ct m rv vs) (i : Nat) (u : Value) : Trk W (w'.setCell ⟨b, i, none⟩ u) b t (cb.setIfInBounds i u) ct m rv vs :=
  ⟨h.below.setCell (p := ⟨b, i, none⟩) h.hb u, h.pb.set_ i u, h.pt.far (p := ⟨b, i, none⟩) (fun q => h.ne q.symm) u, h.recs.set_ h.pb (by decide) (by decide) i u, h.ne, h.hb, h.ht⟩

set_option maxHeartbeats 40000000 in
set_option maxRecDepth 100000 in
theorem order_ok (w : World) (base : Int) (A : Option Addr) (n c : Nat) (D : Nat → OpD) (hb : 1 ≤ base) (hbt : base ≤ top) (hD : OpsR w w.heap.size A n D) (hn : n ≤ 9223372036854775807) :
    Calls Try.prog 3 #[.int .i64 base, .slice A n c] w fun e w' => e = .returned (.bool true) ∧ Below w.heap.size w w' := by
  have HD := hide hD
  clear hD
  go_enter Try.func3, Try.ntmps3
  go_wp2_with fail
  refine (begun_any w).mono ?_
  rintro e w1 ⟨rfl, hb1⟩
  have B1 := hide hb1
  clear hb1
  go_wp2_with fail
  refine (new_ok base w1 hb).mono ?_
  rintro e w2 ⟨rfl, hb2⟩
  have B2 := hide (B1.out.trans (hb2.mono B1.out.size))
  clear hb2
  have HB := hide (Blk.new w2 26 (cells (MS.new base) (.slice none 0 0)))
  have B3 := hide (B2.out.alloc B2.out.size (.cells (cells (MS.new base) (.slice none 0 0)) 26))
  have R3 := hide ((Recs.nil w2 base).alloc (.cells (cells (MS.new base) (.slice none 0 0)) 26))
  have hbl : w.heap.size ≤ w2.heap.size := B2.out.size
  unfold cells MS.new at HB B3 R3 ⊢
  simp only at HB B3 R3 ⊢
  go_wp2_with fail
  generalize w2.alloc _ = w3 at HB B3 R3 ⊢
  generalize w2.heap.size = b at HB hbl ⊢
  go_loopw [7] (fun i wr => OrdRel w base b n i wr) (fun i _ => n - (intOf i).toNat)
  case atStart => exact ⟨0, MS.new base, none, 0, 0, [], Nat.zero_le _, by omega, rfl, MS.new_inv hb hbt, rfl, by simp [MS.new], B3.out, HB.out, R3.out⟩
  case round =>
    obtain ⟨k, m, A1, q, c1, vs, hk, hk80, rfl, hi, hbase, hlen, hbel, hblk, hrec⟩ := hrel
    by_cases hlt : k < n
    · by_cases hlt80 : k < 80
      · obtain ⟨ob, oo, hA, hob, hops⟩ := (HD.out.below hbel) (by omega)
        subst hA
        obtain ⟨hcell, hdd, hrr⟩ := hops k hlt
        clear hops
        generalize D k = d at hcell hdd hrr
        obtain ⟨⟨kind, lsn, cd⟩, ⟨err, rl, l⟩, half, stay, dA, dn, dc, rA, rn, rc⟩ := d
        have p0 := hcell 0 (.int .i64 kind) rfl; have p1 := hcell 1 (.int .i64 lsn) rfl; have p2 := hcell 2 (.slice dA dn dc) rfl; have p3 := hcell 3 (.int .i64 err) rfl; have p4 := hcell 4 (.int .i64 rl) rfl; have p5 := hcell 5 (.slice rA rn rc) rfl; have p6 := hcell 6 (.bool half) rfl; have p7 := hcell 7 (.bool stay) rfl
        simp only [Nat.add_zero] at p0 p1 p2 p3 p4 p5 p6 p7 hdd hrr
        have h80 : decide ((k : Int) < 80) = true := by simp; omega
        have hk80' : (k : Int) < 80 := by omega
        have wl : w.heap.size ≤ wr.heap.size := hbel.size
        have bl : b < wr.heap.size := hblk.lt
        have HI := hide hi; have HBASE := hide hbase; have HBEL := hide hbel; have HBLK := hide hblk; have HREC := hide hrec; have HDD := hide hdd; have HRR := hide hrr
        have hl0 : 0 ≤ (k : Int) := by omega
        clear hi hbase hbel hblk hrec hcell hdd hrr
        by_cases h5 : dn ≤ 5000
        · have h5' : ¬ (5000 < (dn : Int)) := by omega
          cases half with
          | true =>
            have Y0 := fun o1 o2 => ((HBLK.out.alloc o1).alloc o2).cell 0
            have Y1 := fun o1 o2 => ((HBLK.out.alloc o1).alloc o2).cell 1
            have Y2 := fun o1 o2 => ((HBLK.out.alloc o1).alloc o2).cell 2
            have Y3 := fun o1 o2 => ((HBLK.out.alloc o1).alloc o2).cell 3
            have Y4 := fun o1 o2 => ((HBLK.out.alloc o1).alloc o2).cell 4
            have Y5 := fun o1 o2 => ((HBLK.out.alloc o1).alloc o2).cell 5
            have Y6 := fun o1 o2 => ((HBLK.out.alloc o1).alloc o2).cell 6
            have Y7 := fun o1 o2 => ((HBLK.out.alloc o1).alloc o2).cell 7
            simp [cells] at Y0 Y1 Y2 Y3 Y4 Y5 Y6 Y7
            go_wp2_with fail
            have hcall := fun (o1 o2 : Obj) => half_any ((wr.alloc o1).alloc o2) m ⟨kind, lsn, cd⟩ A1 q c1 vs dA dn dc HI.out ((HREC.out.alloc o1).alloc o2).reads (((HDD.out.up wl).alloc o1).alloc o2)
            cases hA : m.half ⟨kind, lsn, cd⟩ with
            | none =>
              simp only [hA] at hcall
              refine (hcall _ _).mono ?_
              clear hcall
              rintro e w6 ⟨hb6, hres⟩
              simp only at hres
              subst hres
              have hz6 := hb6.size
              simp only [World.size_alloc] at hz6
              have TR := Trk.mk (((HBEL.out.alloc wl _).alloc (by simp; omega) _).trans (hb6.mono (by simp; omega))) (((HBLK.out.alloc _).alloc _).below hb6 (by simp; omega)) ((Blk.new2 wr _ 26 zcells).below hb6 (by simp)) (((HREC.out.alloc _).alloc _).below hb6) (by omega) hbl (by omega)
              clear hb6 hz6
              generalize wr.heap.size + 1 = t9 at TR ⊢
              have HT := hide TR
              have x0 := TR.pt.cell 0; have g0 := TR.pt.frozen 0
              have x1 := TR.pt.cell 1; have g1 := TR.pt.frozen 1
              have x2 := TR.pt.cell 2; have g2 := TR.pt.frozen 2
              have x3 := TR.pt.cell 3; have g3 := TR.pt.frozen 3
              have x4 := TR.pt.cell 4; have g4 := TR.pt.frozen 4
              have x5 := TR.pt.cell 5; have g5 := TR.pt.frozen 5
              have x6 := TR.pt.cell 6; have g6 := TR.pt.frozen 6
              have x7 := TR.pt.cell 7; have g7 := TR.pt.frozen 7
              simp [zcells, cells, MS.zero] at x0 x1 x2 x3 x4 x5 x6 x7
              clear TR Y0 Y1 Y2 Y3 Y4 Y5 Y6 Y7
              unfold zcells cells MS.zero
              go_upto_region 16 with (fail)
              have DD := ((((((((HT.out.sett 0 (.int .i64 0)).sett 1 (.int .i64 0)).sett 2 (.int .i64 0)).sett 3 (.int .i64 0)).sett 4 (.int .i64 0)).sett 5 (.slice none 0 0)).sett 6 (.bool false)).sett 7 (.bool false))
              generalize World.setCell _ _ _ = w7 at DD ⊢
              clear x0 x1 x2 x3 x4 x5 x6 x7 g0 g1 g2 g3 g4 g5 g6 g7
              have x0 := DD.pt.cell 0
              have x1 := DD.pt.cell 1
              have x2 := DD.pt.cell 2
              have x3 := DD.pt.cell 3
              have x4 := DD.pt.cell 4
              have x5 := DD.pt.cell 5
              have x6 := DD.pt.cell 6
              have x7 := DD.pt.cell 7
              simp [zcells, cells, MS.zero] at x0 x1 x2 x3 x4 x5 x6 x7
              have HDD7 := hide DD
              clear DD
              go_wp2_with fail
              refine (same_self w7 MS.zero none none 0 0).mono ?_
              rintro e w8 ⟨rfl, hb8⟩
              have B8 := hide (HDD7.out.below.trans (hb8.mono HDD7.out.below.size))
              have P8 := hide (HDD7.out.pb.below hb8 HDD7.out.pb.lt)
              have Q8 := hide (HDD7.out.recs.below hb8)
              clear hb8 x0 x1 x2 x3 x4 x5 x6 x7
              go_wp2_with fail
              go_roundw
              case rel => exact ⟨k + 1, m, A1, q, c1, vs, by omega, by omega, by go_num, HI.out, HBASE.out, by omega, B8.out, P8.out, Q8.out⟩
              case measure => simp [intOf]; omega
            | some m1 =>
              simp only [hA] at hcall
              refine (hcall _ _).mono ?_
              clear hcall
              rintro e w6 ⟨hb6, s2, A2, n2, c2, vs2, rfl, hst⟩
              have hgd := MS.good_half HI.out hA
              have hstep := hgd.1
              have hinv := hgd.2 (by omega)
              obtain rfl : n2 = m1.recs.length := own_n hst.row
              have hz6 := hb6.size
              simp only [World.size_alloc] at hz6
              have TR := Trk.mk (((HBEL.out.alloc wl _).alloc (by simp; omega) _).trans (hb6.mono (by simp; omega))) (((HBLK.out.alloc _).alloc _).below hb6 (by simp; omega)) ((Blk.new2 wr _ 26 zcells).below hb6 (by simp)) hst.recs (by omega) hbl (by omega)
              have HSTEP := hide hstep; have HINV := hide hinv
              clear hb6 hz6 hst hA hgd hstep hinv
              generalize wr.heap.size + 1 = t9 at TR ⊢
              have HT := hide TR
              have x0 := TR.pt.cell 0; have g0 := TR.pt.frozen 0
              have x1 := TR.pt.cell 1; have g1 := TR.pt.frozen 1
              have x2 := TR.pt.cell 2; have g2 := TR.pt.frozen 2
              have x3 := TR.pt.cell 3; have g3 := TR.pt.frozen 3
              have x4 := TR.pt.cell 4; have g4 := TR.pt.frozen 4
              have x5 := TR.pt.cell 5; have g5 := TR.pt.frozen 5
              have x6 := TR.pt.cell 6; have g6 := TR.pt.frozen 6
              have x7 := TR.pt.cell 7; have g7 := TR.pt.frozen 7
              simp [zcells, cells, MS.zero] at x0 x1 x2 x3 x4 x5 x6 x7
              clear TR Y0 Y1 Y2 Y3 Y4 Y5 Y6 Y7
              unfold cells
              generalize hq2 : m1.recs.length = n2 at HT ⊢
              have HQ2 := hide hq2
              clear hq2
              go_upto_region 16 with (fail)
              have DD := ((((((((HT.out.sett 0 (.int .i64 m1.base)).sett 1 (.int .i64 m1.first)).sett 2 (.int .i64 m1.durable)).sett 3 (.int .i64 m1.next)).sett 4 (.int .i64 m1.limit)).sett 5 (.slice A2 n2 c2)).sett 6 (.bool m1.failed)).sett 7 (.bool m1.closed))
              generalize World.setCell _ _ _ = w7 at DD ⊢
              clear x0 x1 x2 x3 x4 x5 x6 x7 g0 g1 g2 g3 g4 g5 g6 g7
              have x0 := DD.pt.cell 0; have y0 := DD.pb.cell 0; have g0 := DD.pb.frozen 0
              have x1 := DD.pt.cell 1; have y1 := DD.pb.cell 1; have g1 := DD.pb.frozen 1
              have x2 := DD.pt.cell 2; have y2 := DD.pb.cell 2; have g2 := DD.pb.frozen 2
              have x3 := DD.pt.cell 3; have y3 := DD.pb.cell 3; have g3 := DD.pb.frozen 3
              have x4 := DD.pt.cell 4; have y4 := DD.pb.cell 4; have g4 := DD.pb.frozen 4
              have x5 := DD.pt.cell 5; have y5 := DD.pb.cell 5; have g5 := DD.pb.frozen 5
              have x6 := DD.pt.cell 6; have y6 := DD.pb.cell 6; have g6 := DD.pb.frozen 6
              have x7 := DD.pt.cell 7; have y7 := DD.pb.cell 7; have g7 := DD.pb.frozen 7
              simp [zcells, cells, MS.zero] at x0 x1 x2 x3 x4 x5 x6 x7 y0 y1 y2 y3 y4 y5 y6 y7
              have HDD7 := hide DD
              clear DD
              have D1 : decide (m1.durable < m1.first) = false := by have := HINV.out.dur; simp; omega
              have D2 : decide (m1.next < m1.durable) = false := by have := HINV.out.next; simp; omega
              have D3 : decide (m1.limit < m1.durable) = false := by have := HINV.out.lim; simp; omega
              have E1 : m1.next ≤ 9223372036854775807 := by have := HINV.out.top1; unfold top at this; omega
              have E2 : 1 ≤ m1.base := HINV.out.base
              have E3 : m1.base ≤ m1.next := by have := HINV.out.first; have := HINV.out.dur; have := HINV.out.next; omega
              have D4 : ((n2 : Int) != m1.next - m1.base) = false := by have := HINV.out.num; have := HQ2.out; simp; omega
              have D5 : (m1.base != base) = false := by have := HSTEP.out.base; have := HBASE.out; simp; omega
              have D6 : decide (m1.first < m.first) = false := by have := HSTEP.out.first; simp; omega
              have D7 : decide (m1.durable < m.durable) = false := by have := HSTEP.out.dur; simp; omega
              have D8 : decide (m1.next < m.next) = false := by have := HSTEP.out.next; simp; omega
              have D9 : decide (m.limit < m1.limit) = false := by have := HSTEP.out.lim; simp; omega
              have HF := hide HSTEP.out.failed; have HC := hide HSTEP.out.closed
              generalize hf : m.failed = fl at y6 HF
              generalize hf1 : m1.failed = fl1 at x6 HF
              generalize hc : m.closed = cl at y7 HC
              generalize hc1 : m1.closed = cl1 at x7 HC
              clear hf hc
              have HF1 := hide hf1; have HC1 := hide hc1
              clear hf1 hc1
              have HK1 : Hid (k + 1 ≤ n) := hide (by omega)
              have HK2 : Hid (k + 1 ≤ 80) := hide (by omega)
              have HLT : Hid (k < n) := hide hlt
              have HBASE1 := hide (HSTEP.out.base.trans HBASE.out)
              have HLEN1 : Hid (m1.recs.length ≤ k + 1) := hide (by have := HSTEP.out.len; omega)
              have hcs : (((((((((cells m (.slice A1 q c1)).setIfInBounds 0 (.int .i64 m1.base)).setIfInBounds 1 (.int .i64 m1.first)).setIfInBounds 2 (.int .i64 m1.durable)).setIfInBounds 3 (.int .i64 m1.next)).setIfInBounds 4 (.int .i64 m1.limit)).setIfInBounds 5 (.slice A2 n2 c2)).setIfInBounds 6 (.bool fl1)).setIfInBounds 7 (.bool cl1)) = cells m1 (.slice A2 n2 c2) := by
                rw [← HF1.out, ← HC1.out]; rfl
              have hdf := ((((((((HDD7.out.setb 0 (.int .i64 m1.base)).setb 1 (.int .i64 m1.first)).setb 2 (.int .i64 m1.durable)).setb 3 (.int .i64 m1.next)).setb 4 (.int .i64 m1.limit)).setb 5 (.slice A2 n2 c2)).setb 6 (.bool fl1)).setb 7 (.bool cl1))
              rw [hcs] at hdf
              have DF := hide (And.intro hdf.below (And.intro hdf.pb hdf.recs))
              clear hcs hdf
              go_wp2_with fail
              all_goals first
                | (rename_i a1 a2; exact (bad2 HC.out a1 a2).elim)
                | (rename_i a1 a2; exact (bad1 HF.out a1 a2).elim)
                | (rename_i a1 a2 _; exact (bad1 HF.out a1 a2).elim)
                | (rename_i a1 a2 _ _; exact (bad1 HF.out a1 a2).elim)
                | (rename_i a1 a2 _ _ _; exact (bad1 HF.out a1 a2).elim)
                | (rename_i a1 a2 _ _ _ _; exact (bad1 HF.out a1 a2).elim)
                | (rename_i a1 a2 _ _ _ _ _; exact (bad1 HF.out a1 a2).elim)
                | (go_roundw
                   case rel =>
                     first
                       | with_reducible exact ordRel_mk HK1.out HK2.out HINV.out HBASE1.out HLEN1.out DF.out
                       | (rename_i a1 a2 a3 a4; subst a2; with_reducible exact ordRel_mk HK1.out HK2.out HINV.out HBASE1.out HLEN1.out DF.out)
                       | (rename_i a1 a2 a3 a4; subst a2; have a5 := notf a4; subst a5; with_reducible exact ordRel_mk HK1.out HK2.out HINV.out HBASE1.out HLEN1.out DF.out)
                       | (rename_i a1 a2 a3; subst a2; with_reducible exact ordRel_mk HK1.out HK2.out HINV.out HBASE1.out HLEN1.out DF.out)
                       | (rename_i a1 a2 a3; have a5 := notf a3; subst a5; with_reducible exact ordRel_mk HK1.out HK2.out HINV.out HBASE1.out HLEN1.out DF.out)
                   case measure => exact meas n k HLT.out)
            
          | false =>
            have Y0 := fun o1 o2 => ((HBLK.out.alloc o1).alloc o2).cell 0
            have Y1 := fun o1 o2 => ((HBLK.out.alloc o1).alloc o2).cell 1
            have Y2 := fun o1 o2 => ((HBLK.out.alloc o1).alloc o2).cell 2
            have Y3 := fun o1 o2 => ((HBLK.out.alloc o1).alloc o2).cell 3
            have Y4 := fun o1 o2 => ((HBLK.out.alloc o1).alloc o2).cell 4
            have Y5 := fun o1 o2 => ((HBLK.out.alloc o1).alloc o2).cell 5
            have Y6 := fun o1 o2 => ((HBLK.out.alloc o1).alloc o2).cell 6
            have Y7 := fun o1 o2 => ((HBLK.out.alloc o1).alloc o2).cell 7
            simp [cells] at Y0 Y1 Y2 Y3 Y4 Y5 Y6 Y7
            go_wp2_with fail
            have hcall := fun (o1 o2 : Obj) => apply_any ((wr.alloc o1).alloc o2) m ⟨kind, lsn, cd⟩ ⟨err, rl, l⟩ A1 q c1 vs dA dn dc rA rn rc HI.out ((HREC.out.alloc o1).alloc o2).reads (((HDD.out.up wl).alloc o1).alloc o2) (((HRR.out.up wl).alloc o1).alloc o2)
            cases hA : m.apply ⟨kind, lsn, cd⟩ ⟨err, rl, l⟩ with
            | none =>
              simp only [hA] at hcall
              refine (hcall _ _).mono ?_
              clear hcall
              rintro e w6 ⟨hb6, hres⟩
              simp only at hres
              subst hres
              have hz6 := hb6.size
              simp only [World.size_alloc] at hz6
              have TR := Trk.mk (((HBEL.out.alloc wl _).alloc (by simp; omega) _).trans (hb6.mono (by simp; omega))) (((HBLK.out.alloc _).alloc _).below hb6 (by simp; omega)) ((Blk.new2 wr _ 26 zcells).below hb6 (by simp)) (((HREC.out.alloc _).alloc _).below hb6) (by omega) hbl (by omega)
              clear hb6 hz6
              generalize wr.heap.size + 1 = t9 at TR ⊢
              have HT := hide TR
              have x0 := TR.pt.cell 0; have g0 := TR.pt.frozen 0
              have x1 := TR.pt.cell 1; have g1 := TR.pt.frozen 1
              have x2 := TR.pt.cell 2; have g2 := TR.pt.frozen 2
              have x3 := TR.pt.cell 3; have g3 := TR.pt.frozen 3
              have x4 := TR.pt.cell 4; have g4 := TR.pt.frozen 4
              have x5 := TR.pt.cell 5; have g5 := TR.pt.frozen 5
              have x6 := TR.pt.cell 6; have g6 := TR.pt.frozen 6
              have x7 := TR.pt.cell 7; have g7 := TR.pt.frozen 7
              simp [zcells, cells, MS.zero] at x0 x1 x2 x3 x4 x5 x6 x7
              clear TR Y0 Y1 Y2 Y3 Y4 Y5 Y6 Y7
              unfold zcells cells MS.zero
              go_upto_region 16 with (fail)
              have DD := ((((((((HT.out.sett 0 (.int .i64 0)).sett 1 (.int .i64 0)).sett 2 (.int .i64 0)).sett 3 (.int .i64 0)).sett 4 (.int .i64 0)).sett 5 (.slice none 0 0)).sett 6 (.bool false)).sett 7 (.bool false))
              generalize World.setCell _ _ _ = w7 at DD ⊢
              clear x0 x1 x2 x3 x4 x5 x6 x7 g0 g1 g2 g3 g4 g5 g6 g7
              have x0 := DD.pt.cell 0
              have x1 := DD.pt.cell 1
              have x2 := DD.pt.cell 2
              have x3 := DD.pt.cell 3
              have x4 := DD.pt.cell 4
              have x5 := DD.pt.cell 5
              have x6 := DD.pt.cell 6
              have x7 := DD.pt.cell 7
              simp [zcells, cells, MS.zero] at x0 x1 x2 x3 x4 x5 x6 x7
              have HDD7 := hide DD
              clear DD
              go_wp2_with fail
              refine (same_self w7 MS.zero none none 0 0).mono ?_
              rintro e w8 ⟨rfl, hb8⟩
              have B8 := hide (HDD7.out.below.trans (hb8.mono HDD7.out.below.size))
              have P8 := hide (HDD7.out.pb.below hb8 HDD7.out.pb.lt)
              have Q8 := hide (HDD7.out.recs.below hb8)
              clear hb8 x0 x1 x2 x3 x4 x5 x6 x7
              go_wp2_with fail
              go_roundw
              case rel => exact ⟨k + 1, m, A1, q, c1, vs, by omega, by omega, by go_num, HI.out, HBASE.out, by omega, B8.out, P8.out, Q8.out⟩
              case measure => simp [intOf]; omega
            | some m1 =>
              simp only [hA] at hcall
              refine (hcall _ _).mono ?_
              clear hcall
              rintro e w6 ⟨hb6, s2, A2, n2, c2, vs2, rfl, hst⟩
              have hgd := MS.good_apply HI.out hA
              have hstep := hgd.1
              have hinv := hgd.2 (by omega)
              obtain rfl : n2 = m1.recs.length := own_n hst.row
              have hz6 := hb6.size
              simp only [World.size_alloc] at hz6
              have TR := Trk.mk (((HBEL.out.alloc wl _).alloc (by simp; omega) _).trans (hb6.mono (by simp; omega))) (((HBLK.out.alloc _).alloc _).below hb6 (by simp; omega)) ((Blk.new2 wr _ 26 zcells).below hb6 (by simp)) hst.recs (by omega) hbl (by omega)
              have HSTEP := hide hstep; have HINV := hide hinv
              clear hb6 hz6 hst hA hgd hstep hinv
              generalize wr.heap.size + 1 = t9 at TR ⊢
              have HT := hide TR
              have x0 := TR.pt.cell 0; have g0 := TR.pt.frozen 0
              have x1 := TR.pt.cell 1; have g1 := TR.pt.frozen 1
              have x2 := TR.pt.cell 2; have g2 := TR.pt.frozen 2
              have x3 := TR.pt.cell 3; have g3 := TR.pt.frozen 3
              have x4 := TR.pt.cell 4; have g4 := TR.pt.frozen 4
              have x5 := TR.pt.cell 5; have g5 := TR.pt.frozen 5
              have x6 := TR.pt.cell 6; have g6 := TR.pt.frozen 6
              have x7 := TR.pt.cell 7; have g7 := TR.pt.frozen 7
              simp [zcells, cells, MS.zero] at x0 x1 x2 x3 x4 x5 x6 x7
              clear TR Y0 Y1 Y2 Y3 Y4 Y5 Y6 Y7
              unfold cells
              generalize hq2 : m1.recs.length = n2 at HT ⊢
              have HQ2 := hide hq2
              clear hq2
              go_upto_region 16 with (fail)
              have DD := ((((((((HT.out.sett 0 (.int .i64 m1.base)).sett 1 (.int .i64 m1.first)).sett 2 (.int .i64 m1.durable)).sett 3 (.int .i64 m1.next)).sett 4 (.int .i64 m1.limit)).sett 5 (.slice A2 n2 c2)).sett 6 (.bool m1.failed)).sett 7 (.bool m1.closed))
              generalize World.setCell _ _ _ = w7 at DD ⊢
              clear x0 x1 x2 x3 x4 x5 x6 x7 g0 g1 g2 g3 g4 g5 g6 g7
              have x0 := DD.pt.cell 0; have y0 := DD.pb.cell 0; have g0 := DD.pb.frozen 0
              have x1 := DD.pt.cell 1; have y1 := DD.pb.cell 1; have g1 := DD.pb.frozen 1
              have x2 := DD.pt.cell 2; have y2 := DD.pb.cell 2; have g2 := DD.pb.frozen 2
              have x3 := DD.pt.cell 3; have y3 := DD.pb.cell 3; have g3 := DD.pb.frozen 3
              have x4 := DD.pt.cell 4; have y4 := DD.pb.cell 4; have g4 := DD.pb.frozen 4
              have x5 := DD.pt.cell 5; have y5 := DD.pb.cell 5; have g5 := DD.pb.frozen 5
              have x6 := DD.pt.cell 6; have y6 := DD.pb.cell 6; have g6 := DD.pb.frozen 6
              have x7 := DD.pt.cell 7; have y7 := DD.pb.cell 7; have g7 := DD.pb.frozen 7
              simp [zcells, cells, MS.zero] at x0 x1 x2 x3 x4 x5 x6 x7 y0 y1 y2 y3 y4 y5 y6 y7
              have HDD7 := hide DD
              clear DD
              have D1 : decide (m1.durable < m1.first) = false := by have := HINV.out.dur; simp; omega
              have D2 : decide (m1.next < m1.durable) = false := by have := HINV.out.next; simp; omega
              have D3 : decide (m1.limit < m1.durable) = false := by have := HINV.out.lim; simp; omega
              have E1 : m1.next ≤ 9223372036854775807 := by have := HINV.out.top1; unfold top at this; omega
              have E2 : 1 ≤ m1.base := HINV.out.base
              have E3 : m1.base ≤ m1.next := by have := HINV.out.first; have := HINV.out.dur; have := HINV.out.next; omega
              have D4 : ((n2 : Int) != m1.next - m1.base) = false := by have := HINV.out.num; have := HQ2.out; simp; omega
              have D5 : (m1.base != base) = false := by have := HSTEP.out.base; have := HBASE.out; simp; omega
              have D6 : decide (m1.first < m.first) = false := by have := HSTEP.out.first; simp; omega
              have D7 : decide (m1.durable < m.durable) = false := by have := HSTEP.out.dur; simp; omega
              have D8 : decide (m1.next < m.next) = false := by have := HSTEP.out.next; simp; omega
              have D9 : decide (m.limit < m1.limit) = false := by have := HSTEP.out.lim; simp; omega
              have HF := hide HSTEP.out.failed; have HC := hide HSTEP.out.closed
              generalize hf : m.failed = fl at y6 HF
              generalize hf1 : m1.failed = fl1 at x6 HF
              generalize hc : m.closed = cl at y7 HC
              generalize hc1 : m1.closed = cl1 at x7 HC
              clear hf hc
              have HF1 := hide hf1; have HC1 := hide hc1
              clear hf1 hc1
              have HK1 : Hid (k + 1 ≤ n) := hide (by omega)
              have HK2 : Hid (k + 1 ≤ 80) := hide (by omega)
              have HLT : Hid (k < n) := hide hlt
              have HBASE1 := hide (HSTEP.out.base.trans HBASE.out)
              have HLEN1 : Hid (m1.recs.length ≤ k + 1) := hide (by have := HSTEP.out.len; omega)
              have hcs : (((((((((cells m (.slice A1 q c1)).setIfInBounds 0 (.int .i64 m1.base)).setIfInBounds 1 (.int .i64 m1.first)).setIfInBounds 2 (.int .i64 m1.durable)).setIfInBounds 3 (.int .i64 m1.next)).setIfInBounds 4 (.int .i64 m1.limit)).setIfInBounds 5 (.slice A2 n2 c2)).setIfInBounds 6 (.bool fl1)).setIfInBounds 7 (.bool cl1)) = cells m1 (.slice A2 n2 c2) := by
                rw [← HF1.out, ← HC1.out]; rfl
              have hdf := ((((((((HDD7.out.setb 0 (.int .i64 m1.base)).setb 1 (.int .i64 m1.first)).setb 2 (.int .i64 m1.durable)).setb 3 (.int .i64 m1.next)).setb 4 (.int .i64 m1.limit)).setb 5 (.slice A2 n2 c2)).setb 6 (.bool fl1)).setb 7 (.bool cl1))
              rw [hcs] at hdf
              have DF := hide (And.intro hdf.below (And.intro hdf.pb hdf.recs))
              clear hcs hdf
              go_wp2_with fail
              all_goals first
                | (rename_i a1 a2; exact (bad2 HC.out a1 a2).elim)
                | (rename_i a1 a2; exact (bad1 HF.out a1 a2).elim)
                | (rename_i a1 a2 _; exact (bad1 HF.out a1 a2).elim)
                | (rename_i a1 a2 _ _; exact (bad1 HF.out a1 a2).elim)
                | (rename_i a1 a2 _ _ _; exact (bad1 HF.out a1 a2).elim)
                | (rename_i a1 a2 _ _ _ _; exact (bad1 HF.out a1 a2).elim)
                | (rename_i a1 a2 _ _ _ _ _; exact (bad1 HF.out a1 a2).elim)
                | (go_roundw
                   case rel =>
                     first
                       | with_reducible exact ordRel_mk HK1.out HK2.out HINV.out HBASE1.out HLEN1.out DF.out
                       | (rename_i a1 a2 a3 a4; subst a2; with_reducible exact ordRel_mk HK1.out HK2.out HINV.out HBASE1.out HLEN1.out DF.out)
                       | (rename_i a1 a2 a3 a4; subst a2; have a5 := notf a4; subst a5; with_reducible exact ordRel_mk HK1.out HK2.out HINV.out HBASE1.out HLEN1.out DF.out)
                       | (rename_i a1 a2 a3; subst a2; with_reducible exact ordRel_mk HK1.out HK2.out HINV.out HBASE1.out HLEN1.out DF.out)
                       | (rename_i a1 a2 a3; have a5 := notf a3; subst a5; with_reducible exact ordRel_mk HK1.out HK2.out HINV.out HBASE1.out HLEN1.out DF.out)
                   case measure => exact meas n k HLT.out)
            
        · have h5' : (5000 : Int) < dn := by omega
          go_wp2_with fail
          go_roundw
          case rel => exact ⟨k + 1, m, A1, q, c1, vs, by omega, by omega, by go_num, HI.out, HBASE.out, by omega, HBEL.out.alloc wl _, HBLK.out.alloc _, HREC.out.alloc _⟩
          case measure => simp [intOf]; omega
      · have h80 : decide ((k : Int) < 80) = false := by simp; omega
        have HBEL := hide hbel
        clear hi hbase hbel hblk hrec
        go_wp2_with fail
        go_ret
        exact ⟨rfl, HBEL.out⟩
    · have h80 : decide ((k : Int) < n) = false := by simp; omega
      have HBEL := hide hbel
      clear hi hbase hbel hblk hrec
      go_wp2_with fail
      go_ret
      exact ⟨rfl, HBEL.out⟩
end Go.Proofs.Ytemllidcnamlmaa
