/- ModelOrder's second argument, a slice of Ops, opened to cells. -/
import Derived.Test.YtemllidcnamlmaaWn
import Derived.ProofKit
import Derived.OpenShut
import Derived.Deep.Slices
namespace Go.Proofs.Ytemllidcnamlmaa
open Go.ChangeShapes Go.WideShapes Go.ChangeAt Go.RowKit Go.Deep

section
variable {H : Type} {enc : TypeId × Value → H} {W : World} {spare : Nat → Bool} {held : Bool}

theorem cells_one {cs : List Value} {k : Nat} (h : k < cs.length) : (cs.drop k).take 1 = [cs[k]] := by
  rw [List.drop_eq_getElem_cons h]; rfl

/-- A []byte that came in, as bytes. -/
theorem byt_open {fuel : Nat} {v : Value} {x : DataW H × List MemPlace} (h : DataW.trod enc Try.prog W 0 spare held fuel 30 [v] = some x) :
    ∃ A n c l, v = .slice A n c ∧ Byt W W.heap.size A n c l := by
  rcases open_ints Try.underlying30 Try.underlying5 (by kernel_rfl) h with ⟨hcs, _⟩ | ⟨a, l, c, zs, hcs, _, hl, hm, hz, _, hcell, hwz⟩
  · injection hcs with hcs
    exact ⟨none, 0, 0, [], hcs, ⟨rfl, fun q => absurd q (by omega)⟩, Nat.le_refl _⟩
  · injection hcs with hcs
    have hz' : l ≤ zs.length := by rw [hz]; split <;> omega
    refine ⟨some a, l, c, zs.take l, hcs, ⟨by simp; omega, fun h0 => ⟨a, rfl, ?_, fun j u hu => ?_⟩⟩, hl⟩
    · have := World.block_lt_of_cell? W _ (hcell 0 (by omega))
      rwa [block_of_add] at this
    · have hj : j < (zs.take l).length := by
        rcases Nat.lt_or_ge j (zs.take l).length with h | h
        · exact h
        · rw [List.getElem?_eq_none (by simpa using h)] at hu; cases hu
      have hjl : j < zs.length := by simp at hj; omega
      rw [hcell j hjl, ← hu]
      simp only [List.getElem?_map]
      rw [List.getElem?_take_of_lt (by simp at hj; omega)]
      simp [List.getD_eq_getElem?_getD, List.getElem?_eq_getElem hjl]

theorem call_open {fuel : Nat} {cs : List Value} {x : DataW H × List MemPlace} (h : DataW.trod enc Try.prog W 0 spare held fuel 32 cs = some x) :
    ∃ kind lsn A n c l, cs = [.int .i64 kind, .int .i64 lsn, .slice A n c] ∧ Byt W W.heap.size A n c l := by
  obtain ⟨xs, n, _, _, hlen, hxl, hf⟩ := DataW.trod_struct Try.underlying32 h
  have hc : Try.prog.cellsOf 32 = 3 := by kernel_rfl
  rw [hc] at hlen
  match cs, hlen with
  | [c0, c1, c2], _ =>
    have h0 := hf 0 _ rfl
    have h1 := hf 1 _ rfl
    have h2 := hf 2 _ rfl
    have x0 : ∃ y, xs[0]? = some y := ⟨_, List.getElem?_eq_getElem (by rw [hxl]; decide)⟩
    have x1 : ∃ y, xs[1]? = some y := ⟨_, List.getElem?_eq_getElem (by rw [hxl]; decide)⟩
    have x2 : ∃ y, xs[2]? = some y := ⟨_, List.getElem?_eq_getElem (by rw [hxl]; decide)⟩
    obtain ⟨y0, x0⟩ := x0; obtain ⟨y1, x1⟩ := x1; obtain ⟨y2, x2⟩ := x2
    rw [x0] at h0; rw [x1] at h1; rw [x2] at h2
    have k3 : Try.prog.cellsOf 3 = 1 := by kernel_rfl
    have k2 : Try.prog.cellsOf 2 = 1 := by kernel_rfl
    have k30 : Try.prog.cellsOf 30 = 1 := by kernel_rfl
    simp [k3] at h0; simp [k2] at h1; simp [k30] at h2
    obtain ⟨kind, e0, _⟩ := DataW.trod_int Try.underlying3 h0
    obtain ⟨lsn, e1, _⟩ := DataW.trod_int Try.underlying2 h1
    obtain ⟨A, m, c, l, e2, hb⟩ := byt_open h2
    injection e0 with e0; injection e1 with e1
    subst e0 e1 e2
    exact ⟨kind, lsn, A, m, c, l, rfl, hb⟩

theorem res_open {fuel : Nat} {cs : List Value} {x : DataW H × List MemPlace} (h : DataW.trod enc Try.prog W 0 spare held fuel 34 cs = some x) :
    ∃ err lsn A n c l, cs = [.int .i64 err, .int .i64 lsn, .slice A n c] ∧ Byt W W.heap.size A n c l := by
  obtain ⟨xs, n, _, _, hlen, hxl, hf⟩ := DataW.trod_struct Try.underlying34 h
  have hc : Try.prog.cellsOf 34 = 3 := by kernel_rfl
  rw [hc] at hlen
  match cs, hlen with
  | [c0, c1, c2], _ =>
    have h0 := hf 0 _ rfl
    have h1 := hf 1 _ rfl
    have h2 := hf 2 _ rfl
    have x0 : ∃ y, xs[0]? = some y := ⟨_, List.getElem?_eq_getElem (by rw [hxl]; decide)⟩
    have x1 : ∃ y, xs[1]? = some y := ⟨_, List.getElem?_eq_getElem (by rw [hxl]; decide)⟩
    have x2 : ∃ y, xs[2]? = some y := ⟨_, List.getElem?_eq_getElem (by rw [hxl]; decide)⟩
    obtain ⟨y0, x0⟩ := x0; obtain ⟨y1, x1⟩ := x1; obtain ⟨y2, x2⟩ := x2
    rw [x0] at h0; rw [x1] at h1; rw [x2] at h2
    have k3 : Try.prog.cellsOf 27 = 1 := by kernel_rfl
    have k2 : Try.prog.cellsOf 2 = 1 := by kernel_rfl
    have k30 : Try.prog.cellsOf 30 = 1 := by kernel_rfl
    simp [k3] at h0; simp [k2] at h1; simp [k30] at h2
    obtain ⟨kind, e0, _⟩ := DataW.trod_int Try.underlying27 h0
    obtain ⟨lsn, e1, _⟩ := DataW.trod_int Try.underlying2 h1
    obtain ⟨A, m, c, l, e2, hb⟩ := byt_open h2
    injection e0 with e0; injection e1 with e1
    subst e0 e1 e2
    exact ⟨kind, lsn, A, m, c, l, rfl, hb⟩

theorem op_open {fuel : Nat} {cs : List Value} {x : DataW H × List MemPlace} (h : DataW.trod enc Try.prog W 0 spare held fuel 36 cs = some x) :
    ∃ d : OpD, cs = (opCells d).toList ∧ Byt W W.heap.size d.dA d.dn d.dc d.call.data ∧ Byt W W.heap.size d.rA d.rn d.rc d.res.data := by
  obtain ⟨xs, n, _, _, hlen, hxl, hf⟩ := DataW.trod_struct Try.underlying36 h
  have hc : Try.prog.cellsOf 36 = 8 := by kernel_rfl
  rw [hc] at hlen
  match cs, hlen with
  | [c0, c1, c2, c3, c4, c5, c6, c7], _ =>
    have h0 := hf 0 _ rfl
    have h1 := hf 1 _ rfl
    have h2 := hf 2 _ rfl
    have h3 := hf 3 _ rfl
    have x0 : ∃ y, xs[0]? = some y := ⟨_, List.getElem?_eq_getElem (by rw [hxl]; decide)⟩
    have x1 : ∃ y, xs[1]? = some y := ⟨_, List.getElem?_eq_getElem (by rw [hxl]; decide)⟩
    have x2 : ∃ y, xs[2]? = some y := ⟨_, List.getElem?_eq_getElem (by rw [hxl]; decide)⟩
    have x3 : ∃ y, xs[3]? = some y := ⟨_, List.getElem?_eq_getElem (by rw [hxl]; decide)⟩
    obtain ⟨y0, x0⟩ := x0; obtain ⟨y1, x1⟩ := x1; obtain ⟨y2, x2⟩ := x2; obtain ⟨y3, x3⟩ := x3
    rw [x0] at h0; rw [x1] at h1; rw [x2] at h2; rw [x3] at h3
    have k32 : Try.prog.cellsOf 32 = 3 := by kernel_rfl
    have k34 : Try.prog.cellsOf 34 = 3 := by kernel_rfl
    have k4 : Try.prog.cellsOf 4 = 1 := by kernel_rfl
    simp [k32] at h0; simp [k34] at h1; simp [k4] at h2 h3
    obtain ⟨kind, lsn, A, m, c, l, e0, hb0⟩ := call_open h0
    obtain ⟨err, rl, A', m', c', l', e1, hb1⟩ := res_open h1
    obtain ⟨b2, e2, _⟩ := DataW.trod_bool Try.underlying4 h2
    obtain ⟨b3, e3, _⟩ := DataW.trod_bool Try.underlying4 h3
    simp only [List.cons.injEq, and_true] at e0 e1 e2 e3
    obtain ⟨rfl, rfl, rfl⟩ := e0
    obtain ⟨rfl, rfl, rfl⟩ := e1
    subst e2 e3
    exact ⟨⟨⟨kind, lsn, l⟩, ⟨err, rl, l'⟩, b2, b3, A, m, c, A', m', c'⟩, rfl, hb0, hb1⟩

/-- A slice of Ops that came in. -/
theorem ops_open {fuel : Nat} {A : Option Addr} {n c : Nat} {x : DataW H × List MemPlace} (h : DataW.trod enc Try.prog W 0 (fun _ => true) held fuel 22 [.slice A n c] = some x) :
    n ≤ maxLen ∧ ∃ D : Nat → OpD, OpsR W W.heap.size A n D := by
  have hc : Try.prog.cellsOf 36 = 8 := by kernel_rfl
  rcases open_slice Try.underlying22 h with ⟨hcs, _⟩ | ⟨a, len, cap, m, f, _, Pl, hcs, hb, hl, hm, hmm, hx, hi⟩
  · simp at hcs
    obtain ⟨rfl, rfl, rfl⟩ := hcs
    exact ⟨Nat.zero_le _, fun _ => ⟨⟨0, 0, []⟩, ⟨0, 0, []⟩, false, false, none, 0, 0, none, 0, 0⟩, fun h => absurd h (by omega)⟩
  · simp at hcs
    obtain ⟨rfl, rfl, rfl⟩ := hcs
    simp at hmm
    subst hmm
    refine ⟨by omega, ?_⟩
    have each : ∀ i, ∃ d : OpD, i < n → (∀ (j : Nat) (v : Value), (opCells d)[j]? = some v → W.cell? (a.add (i * 8 + j)) = some v) ∧ Byt W W.heap.size d.dA d.dn d.dc d.call.data ∧ Byt W W.heap.size d.rA d.rn d.rc d.res.data := by
      intro i
      by_cases hin : i < n
      · obtain ⟨cs', hcell, ht⟩ := hi i (by omega)
        obtain ⟨d, he, h1, h2⟩ := op_open ht
        rw [hc] at hcell
        obtain ⟨_, hcl, hat⟩ := World.cells?_some hcell
        refine ⟨d, fun _ => ⟨fun j v hj => ?_, h1, h2⟩⟩
        have hj8 : j < 8 := by
          rcases Nat.lt_or_ge j 8 with h | h
          · exact h
          · rw [Array.getElem?_eq_none (by simpa [opCells] using h)] at hj; cases hj
        have := hat j hj8
        rw [he] at this
        rw [← add_of_add, this]
        simpa using hj
      · exact ⟨⟨⟨0, 0, []⟩, ⟨0, 0, []⟩, false, false, none, 0, 0, none, 0, 0⟩, fun h => absurd h hin⟩
    refine ⟨fun i => (each i).choose, fun hn => ?_⟩
    have e0 := ((each 0).choose_spec hn).1 0 _ rfl
    obtain ⟨b, o, sp⟩ := a
    have hsp : sp = none := by
      have h00 : (⟨b, o, sp⟩ : Addr).add (0 * 8 + 0) = ⟨b, o, sp⟩ := by simp [Addr.add]
      rw [h00] at e0
      cases sp with
      | none => rfl
      | some z => simp [World.cell?] at e0; split at e0 <;> simp at e0
    subst hsp
    have hadd : ∀ j, (⟨b, o, none⟩ : Addr).add j = ⟨b, o + j, none⟩ := fun j => by unfold Addr.add; split <;> simp_all
    refine ⟨b, o, rfl, ?_, fun i hin => ?_⟩
    · have := World.block_lt_of_cell? W _ e0
      rwa [block_of_add] at this
    · obtain ⟨h1, h2, h3⟩ := (each i).choose_spec hin
      refine ⟨fun j v hj => ?_, h2, h3⟩
      have := h1 j v hj
      rw [hadd] at this
      rw [Nat.add_assoc]
      exact this
end
end Go.Proofs.Ytemllidcnamlmaa
