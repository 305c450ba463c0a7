/- What room a disk has: a walk over a map, whatever the order. The loop's shape is that of a worked proof of the kit (a sum over a map). -/
import Derived.Test.YtiedaccgagnofaaGreatRm
import Derived.Tactics
import Derived.Tactics2
import Derived.StillTactics
import Derived.LoopTactic
import Derived.Maps.RangeRun
import Derived.Maps.Range
namespace Go.Proofs.YtiedaccgagnofaaGreat
open Go.RowKit
open Go.ChangeMaps (setBlock)

/-- How long the slice is that a file's first field holds. -/
def lenAt (w : World) : Value → Int
  | .pointer (some a) => match w.cell? a with
    | some (.slice _ n _) => (n : Int)
    | _ => 0
  | _ => 0
/-- The entries with these lengths for values. -/
def lens (w : World) (es : Array MapEntry) : List MapEntry := es.toList.map fun e => { e with val := .int .i64 (lenAt w e.val) }
theorem lens_born (w : World) (es : Array MapEntry) : (lens w es).map (·.born) = es.toList.map (·.born) := by simp [lens]

/-- Nothing of old has turned. -/
structure Later (w w' : World) : Prop where
  os : w'.os = w.os
  tape : w'.tape = w.tape
  output : w'.output = w.output
  size : w.heap.size ≤ w'.heap.size
  block : ∀ i, i < w.heap.size → w'.heap[i]? = w.heap[i]?
theorem Later.cell {w w' : World} (h : Later w w') {a : Addr} {v : Value} (hc : w.cell? a = some v) : w'.cell? a = some v := by
  have hlt : a.block < w.heap.size := by
    rcases Nat.lt_or_ge a.block w.heap.size with h | h
    · exact h
    · unfold World.cell? at hc
      rw [Array.getElem?_eq_none h] at hc
      cases hc
  unfold World.cell? at hc ⊢
  rw [h.block _ hlt]; exact hc
theorem HRel.later {R : Ren} {w0 : Fr} {H : LH} {w w' : World} (h : HRel R w0 H w) (hl : Later w w') : HRel R w0 H w' :=
  ⟨fun id o ho => by obtain ⟨p, h1, h2, h3⟩ := h.live id o ho; exact ⟨p, h1, h2, h3.keep (Ren.le_refl R) (hl.block _ h3.lt)⟩, h.one, h.fresh,
   ⟨hl.os.trans h.below.os, hl.tape.trans h.below.tape, hl.output.trans h.below.output, Nat.le_trans h.below.size hl.size, fun k hk => (hl.block k (Nat.lt_of_lt_of_le (w0.lt k hk) h.below.size)).trans (h.below.block k hk)⟩, h.holes⟩

def RoomRel (w : World) (most : Int) (bm clock : Nat) (es : Array MapEntry) (t : Value) (wr : World) : Prop :=
  ∃ seen : Array Nat, wr.heap[w.heap.size]? = some (.mapIter (some bm) clock seen clock) ∧ Later w wr ∧ t = .int .i64 (most - seenSum (lens w es) seen)

/-- What the files hold together. -/
def heldAll (w : World) (es : Array MapEntry) : Int := ((lens w es).map fun e => valOf e.val).sum

set_option maxRecDepth 1000000 in
theorem room_walk (b o bm : Nat) (most : Int) (es : Array MapEntry) (clock : Nat) (w : World) (h2 : w.cell? ⟨b, o + 2, none⟩ = some (.int .i64 most)) (h3 : w.cell? ⟨b, o + 3, none⟩ = some (.map (some bm)))
    (hb : w.heap[bm]? = some (.map es clock)) (hst : ∀ x ∈ es.toList, x.born < clock) (hnd : (es.toList.map (·.born)).Nodup) (hv : ∀ x ∈ es.toList, ∃ fb fo ad n c, x.val = .pointer (some ⟨fb, fo, none⟩) ∧ w.cell? ⟨fb, fo, none⟩ = some (.slice ad n c))
    (hbnd : ∀ seen, -4611686018427387904 ≤ most - seenSum (lens w es) seen ∧ most - seenSum (lens w es) seen ≤ 4611686018427387904) :
    Calls Tryz.prog 226 #[.pointer (some ⟨b, o, none⟩)] w fun e w' => e = .returned (.int .i64 (max (most - heldAll w es) 0)) ∧ Later w w' := by
  have hrg := run_range_map (P := Tryz.prog) w 105 9 123 bm es clock Tryz.underlying105 hb
  have hbl : bm < w.heap.size := (Array.getElem?_eq_some_iff.1 hb).1
  go_enter Tryz.func226, Tryz.ntmps226
  go_wp2
  go_loopw [3] (fun t wr => RoomRel w most bm clock es t wr) (fun _ wr => wr.rangeLeft bm w.heap.size)
  case atStart =>
    refine ⟨#[], heap_alloc_new _ _, ⟨rfl, rfl, rfl, by simp, fun i hi => heap_alloc_old _ _ hi⟩, ?_⟩
    rw [seenSum_none]; simp
  case round =>
    obtain ⟨seen, hit, hlat, ht⟩ := hrel
    subst ht
    have hb1 : wr.heap[bm]? = some (.map es clock) := (hlat.block bm hbl).trans hb
    have hrl : w.heap.size < wr.heap.size := (Array.getElem?_eq_some_iff.1 hit).1
    rcases run_next_at (P := Tryz.prog) wr 0 w.heap.size bm clock clock seen es clock hit hb1 hst (Nat.le_refl _) with ⟨h0, hnx⟩ | ⟨e, he, w1, hal, hnx⟩
    · have hsum : seenSum (lens w es) seen = heldAll w es := seenSum_full seen (lens w es) fun x hx => by
        obtain ⟨y, hy, rfl⟩ := List.mem_map.1 hx
        exact all_seen es seen h0 y hy
      go_wp2
      all_goals
        go_ret
        refine ⟨?_, hlat⟩
        first
          | (rw [Int.max_eq_left (by omega)]; rfl)
          | (rw [Int.max_eq_right (by omega)]; rfl)
    · obtain ⟨hem, hes⟩ := mem_left he
      obtain ⟨fb, fo, ad, n, c, hval, hcell⟩ := hv e hem
      have hr1 : w1.heap[w.heap.size]? = some (.mapIter (some bm) clock seen clock) := by rcases hal with rfl | rfl <;> exact hit
      have hl1 : Later w w1 := by
        rcases hal with rfl | rfl
        · exact hlat
        · exact ⟨hlat.os, hlat.tape, hlat.output, hlat.size, hlat.block⟩
      have hset := MapKept.heap_set (o' := .mapIter (some bm) clock (seen.push e.born) clock) hr1
      obtain ⟨W, hWe⟩ : ∃ W, W = setBlock w1 w.heap.size (.mapIter (some bm) clock (seen.push e.born) clock) := ⟨_, rfl⟩
      have hWl : Later w W := by
        subst hWe
        exact ⟨hl1.os, hl1.tape, hl1.output, by simp [setBlock]; exact hl1.size, fun i hi => (hset.2 i (by omega)).trans (hl1.block i hi)⟩
      have hWit : W.heap[w.heap.size]? = some (.mapIter (some bm) clock (seen.push e.born) clock) := by rw [hWe]; exact hset.1
      have hWb : W.heap[bm]? = some (.map es clock) := (hWl.block bm hbl).trans hb
      have hen := run_entry_at (P := Tryz.prog) W w.heap.size bm clock seen es clock e hWit hWb hem hnd
      rw [hval] at hnx hen
      rw [← hWe] at hnx
      clear hWe
      have hcellW := hWl.cell hcell
      have hnx' : ∀ ty, (Instr.next (.pointer (some ⟨w.heap.size, 0, none⟩)) false ty).run Tryz.prog wr = .ok (.tuple #[.bool true, e.key, .pointer (some ⟨fb, fo, none⟩)]) W := fun _ => hnx
      have hpush : seenSum (lens w es) (seen.push e.born) = seenSum (lens w es) seen + n := by
        have hm : ({ e with val := .int .i64 (lenAt w e.val) } : MapEntry) ∈ lens w es := List.mem_map.2 ⟨e, hem, rfl⟩
        have := seenSum_push seen { e with val := .int .i64 (lenAt w e.val) } hes (lens w es) (by rw [lens_born]; exact hnd) hm
        rw [this, hval]
        simp [lenAt, hcell, valOf]
      have hb2 := hbnd (seen.push e.born)
      rw [hpush] at hb2
      go_wp2
      go_roundw
      case rel =>
        show RoomRel _ _ _ _ _ _ _
        refine ⟨seen.push e.born, hWit, hWl, ?_⟩
        rw [hpush]
        congr 1
        omega
      case measure =>
        have m1 : W.rangeLeft bm w.heap.size = (leftOf es (seen.push e.born)).size := by simp only [World.rangeLeft, hWb, hWit]
        have m2 : wr.rangeLeft bm w.heap.size = (leftOf es seen).size := by simp only [World.rangeLeft, hb1, hit]
        rw [m1, m2]
        exact left_shrinks es seen e he

theorem bornsOk_all (clock : Nat) : ∀ (l : List MapEntry) (lo : Nat), bornsOk clock lo l = true → (∀ x ∈ l, lo ≤ x.born ∧ x.born < clock) ∧ (l.map (·.born)).Nodup := by
  intro l
  induction l with
  | nil => intro lo _; exact ⟨fun x hx => by simp at hx, List.nodup_nil⟩
  | cons e l ih =>
    intro lo h
    simp only [bornsOk, Bool.and_eq_true] at h
    obtain ⟨⟨h1, h2⟩, h3⟩ := h
    have h1 := Nat.le_of_ble_eq_true h1
    have h2 : e.born < clock := Nat.le_of_ble_eq_true h2
    obtain ⟨g1, g2⟩ := ih _ h3
    refine ⟨fun x hx => ?_, ?_⟩
    · rcases List.mem_cons.1 hx with rfl | hx
      · exact ⟨h1, h2⟩
      · have := g1 x hx; omega
    · rw [List.map_cons, List.nodup_cons]
      refine ⟨fun hm => ?_, g2⟩
      obtain ⟨x, hx, hb⟩ := List.mem_map.1 hm
      have := g1 x hx
      omega
theorem seenSum_le (seen : Array Nat) : ∀ (l : List MapEntry), (∀ x ∈ l, 0 ≤ valOf x.val) → 0 ≤ seenSum l seen ∧ seenSum l seen ≤ (l.map fun e => valOf e.val).sum := by
  intro l
  induction l with
  | nil => intro _; simp [seenSum]
  | cons x l ih =>
    intro h
    have h1 := h x List.mem_cons_self
    have h2 := ih fun y hy => h y (List.mem_cons_of_mem _ hy)
    simp only [seenSum, List.map_cons, List.sum_cons]
    split <;> omega
theorem roomLens_at {H : LH} : ∀ (l : List MapEntry) (ls : List Nat), roomLens H l = some ls → l.length = ls.length ∧ ∀ (i : Nat) (e : MapEntry), l[i]? = some e → ∃ id off c t s a n cap, e.val = .pointer (some ⟨id, off, none⟩) ∧ H.at id = some (.cells c t s) ∧ c[off]? = some (.slice a n cap) ∧ ls[i]? = some n := by
  intro l
  induction l with
  | nil => intro ls h; simp only [roomLens] at h; injection h with h; subst h; exact ⟨rfl, fun i e he => by simp at he⟩
  | cons x l ih =>
    intro ls h
    simp only [roomLens] at h
    split at h
    · rename_i id off hv
      split at h
      · rename_i c t s hat
        split at h
        · rename_i a n cap ls' hc hls
          injection h with h; subst h
          obtain ⟨g1, g2⟩ := ih ls' hls
          refine ⟨by simp [g1], fun i e he => ?_⟩
          cases i with
          | zero => simp at he; subst he; exact ⟨id, off, c, t, s, a, n, cap, hv, hat, hc, rfl⟩
          | succ i => simpa using g2 i e (by simpa using he)
        · cases h
      · cases h
    · cases h

theorem room_spec : SpecOk Tryz.prog 226 roomS := by
  intro args H v H' hl R w0 w args' h ha
  unfold roomS at hl
  split at hl
  · rename_i id off
    split at hl
    · rename_i c t s hat
      split at hl
      · rename_i most mid hc2 hc3
        split at hl
        · rename_i es clock hm
          split at hl
          · rename_i ls hls hbo
            split at hl
            · rename_i hb
              injection hl with hl; injection hl with h1 h2; subst h1; subst h2
              simp only [Bool.and_eq_true] at hb
              have hb1 := Nat.le_of_ble_eq_true hb.1
              have hb2 := Nat.le_of_ble_eq_true hb.2
              obtain ⟨y, ys, e1, e2, e3⟩ := ha.uncons
              have : ys = [] := List.eq_nil_of_length_eq_zero (by have := e3.1; simpa using this.symm)
              subst this
              have e4 : args' = #[y] := by rw [← Array.toArray_toList (xs := args'), e1]
              subst e4
              cases e2 with
              | @ptr _ p hp _ =>
                obtain ⟨v2, k1, k2⟩ := h.cell hp hat hc2
                cases k2
                obtain ⟨v3, k3, k4⟩ := h.cell hp hat hc3
                cases k4 with
                | @map _ q hq =>
                obtain ⟨es', hh, hr⟩ := h.mapAt hq hm
                obtain ⟨b1, b2⟩ := bornsOk_all clock es.toList 0 hbo
                obtain ⟨n1, n2⟩ := roomLens_at es.toList ls hls
                have hsz := hr.1
                have hpair : ∀ x ∈ es'.toList, ∃ i e, es.toList[i]? = some e ∧ es'.toList[i]? = some x ∧ ERel R e x := fun x hx => by
                  obtain ⟨i, hi⟩ := List.getElem?_of_mem hx
                  have hlt := (List.getElem?_eq_some_iff.1 hi).1
                  have hlt2 : i < es.size := by rw [hsz]; simpa using hlt
                  have hx1 : es[i]? = some es[i] := Array.getElem?_eq_getElem hlt2
                  rw [Array.getElem?_toList] at hi
                  exact ⟨i, es[i], by rw [Array.getElem?_toList]; exact hx1, by rw [Array.getElem?_toList]; exact hi, hr.2 i _ _ hx1 hi⟩
                have hborn : es'.toList.map (·.born) = es.toList.map (·.born) := by
                  apply List.ext_getElem?
                  intro i
                  simp only [List.getElem?_map]
                  rcases Nat.lt_or_ge i es.size with q1 | q1
                  · have q2 : i < es'.size := by rw [← hsz]; exact q1
                    have := (hr.2 i _ _ (Array.getElem?_eq_getElem q1) (Array.getElem?_eq_getElem q2)).1
                    simp [q1, q2, this]
                  · have q2 : es'.size ≤ i := by rw [← hsz]; exact q1
                    simp [q1, q2]
                have hent : ∀ (i : Nat) (e x : MapEntry), es.toList[i]? = some e → ERel R e x → ∃ fb fo ad n cc, x.val = .pointer (some ⟨fb, fo, none⟩) ∧ w.cell? ⟨fb, fo, none⟩ = some (.slice ad n cc) ∧ ls[i]? = some n := fun i e x he hx => by
                  obtain ⟨fid, foff, fc, ft, fs, a, n, cap, f1, f2, f3, f4⟩ := n2 i e he
                  obtain ⟨_, _, _, hval⟩ := hx
                  rw [f1] at hval
                  generalize hxv : x.val = xv at hval
                  cases hval with
                  | @ptr _ pf hpf _ =>
                    obtain ⟨vs, g1, g2⟩ := h.cell hpf f2 f3
                    cases g2 with
                    | nilSlice => exact ⟨_, _, _, _, _, rfl, g1, f4⟩
                    | slice => exact ⟨_, _, _, _, _, rfl, g1, f4⟩
                    | empty => exact ⟨_, _, _, _, _, rfl, g1, f4⟩
                have hlens : (lens w es').map (fun e => valOf e.val) = ls.map Int.ofNat := by
                  apply List.ext_getElem?
                  intro i
                  simp only [lens, List.map_map, List.getElem?_map]
                  rcases Nat.lt_or_ge i es.size with q1 | q1
                  · have q2 : i < es'.size := by rw [← hsz]; exact q1
                    obtain ⟨fb, fo, ad, n, cc, f1, f2, f3⟩ := hent i es[i] es'[i] (by simp [q1]) (hr.2 i _ _ (Array.getElem?_eq_getElem q1) (Array.getElem?_eq_getElem q2))
                    rw [f3]
                    simp [q2, f1, f2, lenAt, valOf]
                  · have q2 : es'.size ≤ i := by rw [← hsz]; exact q1
                    have q3 : ls.length ≤ i := by rw [← n1]; simpa using q1
                    simp [q2, q3]
                have hsum : heldAll w es' = ((ls.sum : Nat) : Int) := by
                  unfold heldAll
                  rw [hlens]
                  clear hlens hls n1 n2 hb hb1 hent
                  induction ls with
                  | nil => rfl
                  | cons a l ih => simp [ih]
                have hnn : ∀ x ∈ lens w es', 0 ≤ valOf x.val := fun x hx => by
                  have : valOf x.val ∈ (lens w es').map (fun e => valOf e.val) := List.mem_map.2 ⟨x, hx, rfl⟩
                  rw [hlens] at this
                  obtain ⟨n, _, hn⟩ := List.mem_map.1 this
                  rw [← hn]; exact Int.natCast_nonneg n
                have hw := room_walk p.block (p.base + off) q.block (most : Int) es' clock w (by rw [Nat.add_assoc]; exact k1) (by rw [Nat.add_assoc]; exact k3) hh (fun x hx => by
                    obtain ⟨i, e, i1, i2, i3⟩ := hpair x hx
                    rw [← i3.1]
                    exact (b1 e (List.mem_of_getElem? i1)).2) (by rw [hborn]; exact b2) (fun x hx => by
                    obtain ⟨i, e, i1, i2, i3⟩ := hpair x hx
                    obtain ⟨fb, fo, ad, n, cc, f1, f2, _⟩ := hent i e x i1 i3
                    exact ⟨fb, fo, ad, n, cc, f1, f2⟩) (fun seen => by
                    have := seenSum_le seen (lens w es') hnn
                    have h2 : ((lens w es').map fun e => valOf e.val).sum = ((ls.sum : Nat) : Int) := hsum
                    rw [h2] at this
                    omega)
                refine Calls.mono hw fun e w' he => ?_
                obtain ⟨rfl, hlat⟩ := he
                refine ⟨R, Ren.le_refl R, ?_, h.later hlat⟩
                rw [hsum]
                have : max ((most : Int) - ((ls.sum : Nat) : Int)) 0 = Int.ofNat (most - ls.sum) := by
                  have h3 : Int.ofNat (most - ls.sum) = ((most - ls.sum : Nat) : Int) := rfl
                  rw [h3]; omega
                rw [this]
                exact .int _ _
            · cases hl
          · cases hl
        · cases hl
      · cases hl
    · cases hl
  · cases hl
end Go.Proofs.YtiedaccgagnofaaGreat
