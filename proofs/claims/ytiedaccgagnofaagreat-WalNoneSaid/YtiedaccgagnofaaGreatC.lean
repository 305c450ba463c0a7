/- Reading and writing objects: what the program's memory operations come to where memory holds the objects. -/
import Derived.Test.YtiedaccgagnofaaGreatB
import Derived.Laws.IdiomCopy
namespace Go.Proofs.YtiedaccgagnofaaGreat
open Go.RowKit

section
variable {R : Ren} {w0 : Fr} {w : World} {H : LH}

/-- The cells of an object, from an offset on, as memory has them. -/
theorem HRel.cell (h : HRel R w0 H w) {id : Nat} {p : Place} (hp : R id = some p) {c : List Value} {e : TypeId} {s : Nat} (ho : H.at id = some (.cells c e s)) {j : Nat} {v : Value} (hv : c[j]? = some v) :
    ∃ v', w.cell? ⟨p.block, p.base + j, none⟩ = some v' ∧ VRel R v v' := by
  obtain ⟨_, hh⟩ := h.get ho hp
  cases hh with
  | cells hh ht hl hb hs hq hf hr =>
    obtain ⟨v', h1, h2⟩ := hr j v hv
    exact ⟨v', by rw [cell_of_row w _ _ _ _ _ hh]; exact h1, h2⟩
theorem HRel.free (h : HRel R w0 H w) {id : Nat} {p : Place} (hp : R id = some p) {c : List Value} {e : TypeId} {s : Nat} (ho : H.at id = some (.cells c e s)) {j : Nat} (hj : j < p.top) : w.frozen? ⟨p.block, j, none⟩ = false := by
  obtain ⟨_, hh⟩ := h.get ho hp
  cases hh with
  | cells hh ht hl hb hs hq hf hr =>
    have := hf j hj
    unfold World.frozen?
    rw [hh]
    exact this
theorem HRel.len (h : HRel R w0 H w) {id : Nat} {p : Place} (hp : R id = some p) {c : List Value} {e : TypeId} {s : Nat} (ho : H.at id = some (.cells c e s)) : c.length = p.len ∧ p.base + p.len ≤ p.top ∧ p.esz = s := by
  obtain ⟨_, hh⟩ := h.get ho hp
  cases hh with
  | cells hh ht hl hb hs hq hf hr => exact ⟨hl, hb, hs⟩

theorem add_off (b o n : Nat) : (⟨b, o, none⟩ : Addr).add n = ⟨b, o + n, none⟩ := by unfold Addr.add; split <;> simp_all

/-- What a run of cells reads as. -/
theorem HRel.slice (h : HRel R w0 H w) {id : Nat} {p : Place} (hp : R id = some p) {c : List Value} {e : TypeId} {s : Nat} (ho : H.at id = some (.cells c e s)) (off n : Nat) (hl : off + n ≤ c.length) :
    ∃ ys, VRels R ((c.drop off).take n) ys ∧ ∀ j v, ys[j]? = some v → w.cell? ((⟨p.block, p.base + off, none⟩ : Addr).add j) = some v := by
  induction n with
  | zero => exact ⟨[], by simpa using VRels.nil R, fun j v hv => by simp at hv⟩
  | succ n ih =>
    obtain ⟨ys, h1, h2⟩ := ih (by omega)
    have hc : c[off + n]? = some (c[off + n]'(by omega)) := List.getElem?_eq_getElem _
    obtain ⟨v', h3, h4⟩ := h.cell hp ho hc
    have hylen : ys.length = n := by rw [← h1.1]; simp; omega
    refine ⟨ys ++ [v'], ?_, fun j v hv => ?_⟩
    · have : (c.drop off).take (n + 1) = (c.drop off).take n ++ [c[off + n]'(by omega)] := by
        rw [List.take_add_one]
        rw [List.getElem?_drop, hc]; rfl
      rw [this]
      exact h1.append (VRels.cons h4 (VRels.nil R))
    · rw [List.getElem?_append] at hv
      split at hv
      · exact h2 j v hv
      · rename_i hj
        have hjn : j - ys.length = 0 := by
          rcases Nat.eq_zero_or_pos (j - ys.length) with h | h
          · exact h
          · rw [List.getElem?_eq_none (by simp; omega)] at hv; cases hv
        rw [hjn] at hv
        simp at hv
        subst hv
        rw [add_off, show p.base + off + j = p.base + (off + n) by omega]
        exact h3

theorem run_load_at (P : Program) (a : Addr) (v : Value) (hc : w.cell? a = some v) : (load a).run P w = .ok v w := by
  simp [load, Sem.run, hc]

/-- setCells, as to blocks. -/
theorem setCells_other (b : Nat) : ∀ (vs : List Value) (o : Nat) (w : World) (k : Nat), k ≠ b → (w.setCells b o vs).heap[k]? = w.heap[k]?
  | [], _, _, _, _ => rfl
  | v :: r, o, w, k, h => by rw [World.setCells, setCells_other b r _ _ k h]; exact Below.heap_setCell _ _ _ _ (by simpa using h)
theorem setCells_same (b : Nat) : ∀ (vs : List Value) (o : Nat) (w : World) (arr : Array Value) (e : TypeId) (fz : Nat × Nat), w.heap[b]? = some (.cells arr e fz) →
    ∃ arr', (w.setCells b o vs).heap[b]? = some (.cells arr' e fz) ∧ arr'.size = arr.size ∧ ∀ j, arr'[j]? = if o ≤ j ∧ j < o + vs.length ∧ j < arr.size then vs[j - o]? else arr[j]?
  | [], o, w, arr, e, fz, h => ⟨arr, h, rfl, fun j => by simp; intro h1 h2; omega⟩
  | v :: r, o, w, arr, e, fz, h => by
    have h' : (w.setCell ⟨b, o, none⟩ v).heap[b]? = some (.cells (arr.setIfInBounds o v) e fz) := by
      simp [World.setCell, Array.getElem?_modify, h]
    obtain ⟨arr', h1, h2, h3⟩ := setCells_same b r (o + 1) _ _ e fz h'
    refine ⟨arr', h1, by simpa using h2, fun j => ?_⟩
    rw [h3 j]
    simp only [Array.size_setIfInBounds, List.length_cons]
    by_cases e1 : o + 1 ≤ j ∧ j < o + 1 + r.length ∧ j < arr.size
    · rw [if_pos e1, if_pos (by omega)]
      rw [show j - o = (j - (o + 1)) + 1 by omega, List.getElem?_cons_succ]
    · rw [if_neg e1]
      by_cases e2 : o = j
      · subst e2
        by_cases e3 : o < arr.size
        · rw [if_pos (by omega)]; simp [e3]
        · rw [if_neg (by omega)]; simp [e3]
      · rw [if_neg (by omega), Array.getElem?_setIfInBounds_ne e2]
theorem setCells_misc (b : Nat) : ∀ (vs : List Value) (o : Nat) (w : World), (w.setCells b o vs).heap.size = w.heap.size ∧ (w.setCells b o vs).os = w.os ∧ (w.setCells b o vs).tape = w.tape ∧ (w.setCells b o vs).output = w.output
  | [], _, _ => ⟨rfl, rfl, rfl, rfl⟩
  | v :: r, o, w => by
    have := setCells_misc b r (o + 1) (w.setCell ⟨b, o, none⟩ v)
    rw [World.setCells]
    exact ⟨by rw [this.1]; simp [World.setCell], this.2⟩

/-- Cells in the middle of a list are written. -/
def splice (c : List Value) (off : Nat) (vs : List Value) : List Value := c.take off ++ vs ++ c.drop (off + vs.length)
theorem splice_len {c vs : List Value} {off : Nat} (h : off + vs.length ≤ c.length) : (splice c off vs).length = c.length := by simp [splice]; omega
theorem splice_get {c vs : List Value} {off : Nat} (h : off + vs.length ≤ c.length) (j : Nat) : (splice c off vs)[j]? = if off ≤ j ∧ j < off + vs.length then vs[j - off]? else c[j]? := by
  unfold splice
  rw [List.getElem?_append, List.getElem?_append]
  simp only [List.length_append, List.length_take]
  have hm : min off c.length = off := by omega
  rw [hm]
  by_cases h1 : j < off
  · rw [if_pos (by omega), if_pos h1, if_neg (by omega), List.getElem?_take_of_lt h1]
  · by_cases h2 : j < off + vs.length
    · rw [if_pos h2, if_neg h1, if_pos (by omega)]
    · rw [if_neg h2, if_neg (by omega), List.getElem?_drop]
      congr 1; omega

/-- Related cells are stored into an object. -/
theorem HRel.write (h : HRel R w0 H w) {id : Nat} (hm : (0 : Nat) < 1) {p : Place} (hp : R id = some p) {c : List Value} {e : TypeId} {s : Nat} (ho : H.at id = some (.cells c e s)) (off : Nat) {vs vs' : List Value} (hv : VRels R vs vs') (hl : off + vs.length ≤ c.length) :
    HRel R w0 (H.put id (some (.cells (splice c off vs) e s))) (w.setCells p.block (p.base + off) vs') := by
  obtain ⟨hz, ho1, ho2, ho3⟩ := setCells_misc p.block vs' (p.base + off) w
  refine h.turn hm ho hp (fun b hb => setCells_other _ _ _ _ _ hb) hz ho1 ho2 ho3 ?_
  obtain ⟨_, hh⟩ := h.get ho hp
  cases hh with
  | @cells _ _ _ arr fz hh ht hcl hb hs hq hf hr =>
    obtain ⟨arr', h1, h2, h3⟩ := setCells_same p.block vs' (p.base + off) w arr e fz hh
    refine .cells h1 (by omega) (by rw [splice_len hl]; exact hcl) hb hs hq hf fun j v hj => ?_
    rw [splice_get hl] at hj
    rw [h3]
    have hvl := hv.1
    by_cases hin : off ≤ j ∧ j < off + vs.length
    · rw [if_pos hin] at hj
      rw [if_pos (by omega)]
      obtain ⟨v', g1, g2⟩ := hv.get hj
      exact ⟨v', by rw [← g1]; congr 1; omega, g2⟩
    · rw [if_neg hin] at hj
      rw [if_neg (by omega)]
      exact hr j v hj

theorem VRels.single {xs ys : List Value} (h : VRels R xs ys) (hs : xs.all single = true) : ∀ v ∈ ys, single v = true := by
  intro v hv
  obtain ⟨i, hi⟩ := List.mem_iff_getElem?.1 hv
  have hl : i < ys.length := by
    rcases Nat.lt_or_ge i ys.length with h | h
    · exact h
    · rw [List.getElem?_eq_none h] at hi; cases hi
  have hx : xs[i]? = some (xs[i]'(by rw [h.1]; exact hl)) := List.getElem?_eq_getElem _
  rw [(h.2 i _ _ hx hi).single]
  exact List.all_eq_true.1 hs _ (List.mem_of_getElem? hx)
theorem single_oneCell' {v : Value} (h : Proofs.YtiedaccgagnofaaGreat.single v = true) : v.oneCell' = true := by cases v <;> first | rfl | cases h

theorem HRel.run_store (h : HRel R w0 H w) (P : Program) {id : Nat} {p : Place} (hp : R id = some p) {c : List Value} {e : TypeId} {s : Nat} (ho : H.at id = some (.cells c e s)) (off : Nat) {vs vs' : List Value} (hv : VRels R vs vs') (hl : off + vs.length ≤ c.length) (hs : vs.all Proofs.YtiedaccgagnofaaGreat.single = true) :
    (storeCells ⟨p.block, p.base + off, none⟩ vs').run P w = .ok () (w.setCells p.block (p.base + off) vs') := by
  have hlen := h.len hp ho
  have hvl := hv.1
  have := run_storeCells_cells (P := P) p.block (p.base + off) vs' 0 w (fun j hj => by
      have hc : c[off + j]? = some (c[off + j]'(by omega)) := List.getElem?_eq_getElem _
      obtain ⟨v', h3, _⟩ := h.cell hp ho hc
      rw [show p.base + off + 0 + j = p.base + (off + j) by omega, h3]; rfl)
    (fun j hj => by
      rw [show p.base + off + 0 + j = p.base + (off + j) by omega]
      exact h.free hp ho (by omega))
    (fun v hv' => single_oneCell' (hv.single hs v hv'))
  simpa using this

/-- A new row of cells. -/
theorem HRel.row (h : HRel R w0 H w) (hm : (0 : Nat) < 1) {c : List Value} {arr : Array Value} (e : TypeId) (s : Nat) (hv : VRels R c arr.toList) :
    HRel (R.add H.next ⟨w.heap.size, 0, c.length, c.length, s⟩) w0 (H.new (.cells c e s)) (w.alloc (.cells arr e)) := by
  have hl := hv.1
  refine h.new hm rfl fun R' hR _ => .cells (heap_alloc_new w _) (by simpa using hl.symm) rfl (by simp) rfl (Nat.le_refl _) (fun j _ => by simp) fun j v hj => ?_
  obtain ⟨v', h1, h2⟩ := hv.get hj
  exact ⟨v', by simpa using h1, h2.mono hR⟩
end
end Go.Proofs.YtiedaccgagnofaaGreat
