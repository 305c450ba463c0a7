/- Single operations of the second run: append, copy, len. -/
import Derived.Test.YtiedaccgagnofaaGreatE
namespace Go.Proofs.YtiedaccgagnofaaGreat
open Go.RowKit

section
variable {P : Program}

theorem run_app_in (t t2 ty e : TypeId) (d2 : TypeDesc) (i : TypeInfo) (ht : P.underlying t = some (.slice e)) (ht2 : P.underlying t2 = some d2) (hd2 : ∀ k, d2 ≠ .int k) (hi : P.info? e = some i)
    (base : Option Addr) (n cap m : Nat) (x : Value) (news : Array Value) (w w' : World) (hlen : (Builtin.lenOf x).run P w = .ok m w) (hnews : (Builtin.firstCells i.size m x).run P w = .ok news w) (hroom : n + m ≤ cap)
    (hst : (match base with | some a => storeCells (a.add (n * i.size)) news.toList | none => pure ()).run P w = .ok () w') :
    (Builtin.append_ #[t, t2] ty #[.slice base n cap, x]).run P w = .ok (.slice base (n + m) cap) w' := by
  cases base with
  | none =>
    simp at hst
    subst hst
    simp [Builtin.append_, run_underlying ht, run_underlying ht2, sizeOf, typeInfo, hi, hlen, hnews, hroom]
  | some a =>
    simp only at hst
    simp [Builtin.append_, run_underlying ht, run_underlying ht2, sizeOf, typeInfo, hi, hlen, hnews, hroom, hst]

theorem run_app_out (t t2 ty e : TypeId) (d2 : TypeDesc) (i : TypeInfo) (z : Value) (ht : P.underlying t = some (.slice e)) (ht2 : P.underlying t2 = some d2) (hd2 : ∀ k, d2 ≠ .int k) (hi : P.info? e = some i) (hz : i.zero = some z)
    (base : Option Addr) (n cap m : Nat) (x : Value) (olds news : Array Value) (w : World) (hlen : (Builtin.lenOf x).run P w = .ok m w) (hnews : (Builtin.firstCells i.size m x).run P w.drew = .ok news w.drew)
    (holds : (Builtin.firstCells i.size n (.slice base n cap)).run P w.drew = .ok olds w.drew) (hroom : cap < n + m) (hsmall : (n + m) * i.bytes ≤ 140737488355328) (h63 : n + m ≤ 9223372036854775807) :
    (Builtin.append_ #[t, t2] ty #[.slice base n cap, x]).run P w = .ok (.slice (some ⟨w.heap.size, 0, none⟩) (n + m) (grownCap w (n + m) cap e))
      (w.drew.alloc (.cells (olds ++ news ++ Builtin.zeroCells z.cells (grownCap w (n + m) cap e - (n + m))) e)) := by
  have hn : ¬ (n + m ≤ cap) := by omega
  have h63' : ¬ (9223372036854775807 < ((n : Int) + (m : Int))) := by omega
  have h48' : ¬ (281474976710656 < Builtin.nextslicecap (n + m) cap * i.bytes) := by have := growslice_fits hroom hsmall; omega
  simp [Builtin.append_, run_underlying ht, run_underlying ht2, sizeOf, typeInfo, zeroValue, hi, hz, hlen, hn, h63', h48', Question.forced, hnews, holds, newRow, grownCap]
end

section
variable {P : Program} {C : Tab} {R : Ren} {w0 : Fr} {w : World} {H : LH}

/-- The cells that are appended or copied: of a slice, of a string. -/
def bytesOf (s : ByteArray) (n : Nat) : List Value := ((s.extract 0 n).data.map fun b => Value.int .u8 b.toNat).toList
noncomputable def lcells (H : LH) (size n : Nat) (x : Value) : Option (List Value) :=
  match x with
  | .slice none _ _ => some []
  | .slice (some ⟨id, off, none⟩) _ _ => match Nat.beq n 0 with
    | true => some []
    | false => match H.at id with
      | some (.cells c _ _) => match Nat.ble (off + n * size) c.length with
        | true => some ((c.drop off).take (n * size))
        | false => none
      | _ => none
  | .string s => some (bytesOf s n)
  | _ => none
noncomputable def llen : Value → Option Nat
  | .slice _ n _ => some n
  | .string s => some s.size
  | _ => none

theorem llen_ok {x x' : Value} {n : Nat} (hx : VRel R x x') (h : llen x = some n) (w : World) : (Builtin.lenOf x').run P w = .ok n w := by
  cases hx <;> simp [llen] at h <;> subst h <;> simp [Builtin.lenOf]

theorem lcells_ok {size n : Nat} {x x' : Value} {l : List Value} (h : HRel R w0 H w) (hx : VRel R x x') (hn : ∃ m, llen x = some m ∧ n ≤ m) (hl : lcells H size n x = some l) :
    ∃ l' : Array Value, (∀ w', (∀ a, w'.cell? a = w.cell? a) → (Builtin.firstCells size n x').run P w' = .ok l' w') ∧ VRels R l l'.toList := by
  unfold lcells at hl
  split at hl
  · injection hl with hl; subst hl
    cases hx
    exact ⟨#[], fun w' _ => by simp [Builtin.firstCells], by simpa using VRels.nil R⟩
  · rename_i id off m cap
    split at hl
    · rename_i h0
      have h0 := beq_t h0
      subst h0
      injection hl with hl; subst hl
      cases hx <;> exact ⟨#[], fun w' _ => by simp [Builtin.firstCells, loadCells, loadCellsFrom], by simpa using VRels.nil R⟩
    · rename_i h0
      have h0 := beq_f h0
      split at hl
      · rename_i c e s hat
        split at hl
        · rename_i hle
          have hle := Nat.le_of_ble_eq_true hle
          injection hl with hl; subst hl
          cases hx with
          | slice hp _ _ _ cap' _ _ =>
            obtain ⟨ys, h1, h2⟩ := h.slice hp hat off (n * size) hle
            have hyl : ys.length = n * size := by rw [← h1.1]; simp; omega
            refine ⟨ys.toArray, fun w' hw => ?_, by simpa using h1⟩
            have := run_loadCells_list (P := P) w' _ ys (fun j v hj => by rw [hw]; exact h2 j v hj)
            rw [hyl] at this
            simp [Builtin.firstCells, this]
          | empty => obtain ⟨m, hm, hm'⟩ := hn; simp [llen] at hm; omega
        · cases hl
      · cases hl
  · rename_i s
    injection hl with hl; subst hl
    cases hx
    refine ⟨((s.extract 0 n).data.map fun b => Value.int .u8 b.toNat), fun w' _ => by simp [Builtin.firstCells], ?_⟩
    refine VRels.flats (List.all_eq_true.2 fun v hv => ?_)
    simp [bytesOf] at hv
    have hv := List.mem_of_mem_take hv
    simp at hv
    obtain ⟨b, _, rfl⟩ := hv
    rfl
  · cases hl

/-- An object is no more. -/
theorem HRel.kill (h : HRel R w0 H w) {id : Nat} (hm : (0 : Nat) < 1) : HRel R w0 (H.put id none) w := by
  refine ⟨fun j o ho => ?_, fun i j o o' p p' hi hj => ?_, fun j hj => h.fresh j (by simpa [LH.put] using hj), h.below, h.holes⟩
  · rw [LH.at_put hm] at ho
    split at ho
    · cases ho
    · exact h.live j o ho
  · rw [LH.at_put hm] at hi hj
    split at hi
    · cases hi
    · split at hj
      · cases hj
      · exact h.one i j _ _ p p' hi hj

/-- A block is given to a new object; what it held is no more. -/
theorem HRel.again (h : HRel R w0 H w) {id : Nat} (hm : (0 : Nat) < 1) (hm2 : (0 : Nat) < 1) {o o' : LObj} {p q : Place} (hid : H.at id = some o) (hp : R id = some p) (hq : q.block = p.block) {w' : World}
    (hk : ∀ b, b ≠ p.block → w'.heap[b]? = w.heap[b]?) (hz : w'.heap.size = w.heap.size) (hos : w'.os = w.os) (htp : w'.tape = w.tape) (hout : w'.output = w.output)
    (ho : ∀ R', R.le R' → Holds R' w' q o') : HRel (R.add H.next q) w0 ((H.put id none).new o') w' := by
  have hf := h.fresh H.next (Nat.le_refl _)
  have hle := Ren.le_add q hf
  obtain ⟨hb, _⟩ := h.get hid hp
  have hat : ∀ j, ((H.put id none).new o').at j = if j = H.next then some o' else if j = id then none else H.at j := fun j => by
    rw [LH.at_new (show (0 : Nat) < 1 from Nat.zero_lt_one)]
    simp only [LH.at_put hm]
    rfl
  have far : ∀ (j : Nat) (u : LObj) (r : Place), j ≠ id → H.at j = some u → R j = some r → r.block ≠ p.block := fun j u r hj hu hr e => hj (h.one j id _ _ _ _ hu hid hr hp e)
  refine ⟨fun j u hu => ?_, fun i j u u' r r' hi hj hri hrj e => ?_, fun j hj => ?_, ?_, fun j hj => ?_⟩
  · rw [hat] at hu
    split at hu
    · rename_i e; subst e; injection hu with hu; subst hu
      exact ⟨q, Ren.add_self _ _ _, by rw [hq]; exact hb, ho _ hle⟩
    · split at hu
      · cases hu
      · rename_i e1 e2
        obtain ⟨r, h1, h2, h3⟩ := h.live j u hu
        exact ⟨r, hle _ _ h1, h2, h3.keep hle (hk _ (far j u r e2 hu h1))⟩
  · rw [hat] at hi hj
    have old : ∀ (k : Nat) (u : LObj) (s : Place), k ≠ H.next → k ≠ id → H.at k = some u → R.add H.next q k = some s → s.block ≠ p.block := fun k u s hk hki hu hs => by
      obtain ⟨s', h1, _, _⟩ := h.live k u hu
      rw [hle _ _ h1] at hs; injection hs with hs; subst hs
      exact far k u s' hki hu h1
    split at hi
    · rename_i ei
      split at hj
      · rename_i ej; rw [ei, ej]
      · split at hj
        · cases hj
        · rename_i e1 e2
          subst ei
          rw [Ren.add_self] at hri; injection hri with hri; subst hri
          exact absurd (e ▸ hq ▸ rfl) (old j _ _ e1 e2 hj hrj)
    · split at hi
      · cases hi
      · rename_i e1 e2
        split at hj
        · rename_i ej
          subst ej
          rw [Ren.add_self] at hrj; injection hrj with hrj; subst hrj
          exact absurd (e.trans hq) (old i _ _ e1 e2 hi hri)
        · split at hj
          · cases hj
          · rename_i e3 e4
            refine h.one i j _ _ r r' hi hj ?_ ?_ e
            · simpa [Ren.add, e1] using hri
            · simpa [Ren.add, e3] using hrj
  · have : j ≠ H.next := by simp [LH.new, LH.put] at hj; omega
    unfold Ren.add
    rw [if_neg this]
    exact h.fresh j (by simp [LH.new, LH.put] at hj; omega)
  · exact ⟨hos.trans h.below.os, htp.trans h.below.tape, hout.trans h.below.output, by rw [hz]; exact h.below.size, fun k hk' => (hk k (fun e => hb (e ▸ hk'))).trans (h.below.block k hk')⟩
  · have := h.holes j hj
    refine ⟨by simp [LH.new, LH.put]; omega, ?_⟩
    unfold Ren.add
    rw [if_neg (by omega)]
    exact this.2
end
end Go.Proofs.YtiedaccgagnofaaGreat
