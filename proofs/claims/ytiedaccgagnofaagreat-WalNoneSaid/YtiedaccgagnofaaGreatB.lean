/- What it means that memory holds the objects of the second run, and what the small steps do to it. -/
import Derived.Test.YtiedaccgagnofaaGreatA
namespace Go.Proofs.YtiedaccgagnofaaGreat
open Go.RowKit

/-- Lists of values, one by one. -/
def VRels (R : Ren) (xs ys : List Value) : Prop := xs.length = ys.length ∧ ∀ (i : Nat) (v v' : Value), xs[i]? = some v → ys[i]? = some v' → VRel R v v'

theorem VRel.mono {R R' : Ren} (hR : R.le R') {v v' : Value} (h : VRel R v v') : VRel R' v v' := by
  induction h with
  | bool b => exact .bool b
  | int k n => exact .int k n
  | float k n => exact .float k n
  | string s => exact .string s
  | nilPtr => exact .nilPtr
  | ptr h off => exact .ptr (hR _ _ h) off
  | nilSlice => exact .nilSlice
  | slice h off n cap cap' hn hc => exact .slice (hR _ _ h) off n cap cap' hn hc
  | empty h off off' cap' hc => exact .empty (hR _ _ h) off off' cap' hc
  | nilMap => exact .nilMap
  | map h => exact .map (hR _ _ h)
  | nilFunc => exact .nilFunc
  | func fn hf h1 h2 _ _ ih1 ih2 => exact .func fn hf h1 h2 ih1 ih2
  | yield h => exact .yield (hR _ _ h)
  | nilIface => exact .nilIface
  | iface t _ ih => exact .iface t ih
  | agg h1 _ ih => exact .agg h1 ih
  | tuple h1 _ ih => exact .tuple h1 ih

theorem VRels.mono {R R' : Ren} (hR : R.le R') {xs ys : List Value} (h : VRels R xs ys) : VRels R' xs ys := ⟨h.1, fun i v v' a b => (h.2 i v v' a b).mono hR⟩
theorem VRels.nil (R : Ren) : VRels R [] [] := ⟨rfl, fun i v v' h => by simp at h⟩
theorem VRels.cons {R : Ren} {x y : Value} {xs ys : List Value} (h : VRel R x y) (hs : VRels R xs ys) : VRels R (x :: xs) (y :: ys) :=
  ⟨by simp [hs.1], fun i v v' a b => by
    cases i with
    | zero => simp at a b; subst a; subst b; exact h
    | succ i => simp at a b; exact hs.2 i v v' a b⟩
theorem VRels.uncons {R : Ren} {x : Value} {xs ys : List Value} (h : VRels R (x :: xs) ys) : ∃ y ys', ys = y :: ys' ∧ VRel R x y ∧ VRels R xs ys' := by
  cases ys with
  | nil => simp [VRels] at h
  | cons y ys' => exact ⟨y, ys', rfl, h.2 0 x y rfl rfl, by simpa [VRels] using h.1, fun i v v' a b => h.2 (i + 1) v v' (by simpa using a) (by simpa using b)⟩
theorem VRels.append {R : Ren} {xs ys xs' ys' : List Value} (h : VRels R xs ys) (h' : VRels R xs' ys') : VRels R (xs ++ xs') (ys ++ ys') := by
  induction xs generalizing ys with
  | nil => have : ys = [] := List.eq_nil_of_length_eq_zero (by simpa using h.1.symm)
           subst this; exact h'
  | cons x xs ih => obtain ⟨y, ys1, rfl, h1, h2⟩ := h.uncons; exact (ih h2).cons h1
theorem VRels.get {R : Ren} {xs ys : List Value} (h : VRels R xs ys) {i : Nat} {v : Value} (hv : xs[i]? = some v) : ∃ v', ys[i]? = some v' ∧ VRel R v v' := by
  have hl : i < xs.length := by
    rcases Nat.lt_or_ge i xs.length with h | h
    · exact h
    · rw [List.getElem?_eq_none h] at hv; cases hv
  have hy : ys[i]? = some (ys[i]'(by rw [← h.1]; exact hl)) := List.getElem?_eq_getElem _
  exact ⟨_, hy, h.2 i v _ hv hy⟩
theorem VRels.take {R : Ren} {xs ys : List Value} (h : VRels R xs ys) (n : Nat) : VRels R (xs.take n) (ys.take n) :=
  ⟨by simp [h.1], fun i v v' a b => by
    rw [List.getElem?_take] at a b
    split at a
    · rename_i hi; rw [if_pos hi] at b; exact h.2 i v v' a b
    · cases a⟩
theorem VRels.drop {R : Ren} {xs ys : List Value} (h : VRels R xs ys) (n : Nat) : VRels R (xs.drop n) (ys.drop n) :=
  ⟨by simp [h.1], fun i v v' a b => by rw [List.getElem?_drop] at a b; exact h.2 _ v v' a b⟩
theorem VRels.set {R : Ren} {xs ys : List Value} (h : VRels R xs ys) (n : Nat) {x y : Value} (hx : VRel R x y) : VRels R (xs.set n x) (ys.set n y) :=
  ⟨by simp [h.1], fun i v v' a b => by
    rw [List.getElem?_set] at a b
    by_cases e : n = i
    · subst e
      simp only [if_true] at a b
      split at a
      · split at b
        · injection a with a; injection b with b; subst a; subst b; exact hx
        · cases b
      · cases a
    · rw [if_neg e] at a b; exact h.2 i v v' a b⟩

/-- Values without places. -/
def flat : Value → Bool
  | .bool _ | .int _ _ | .float _ _ | .string _ | .nilFunc | .nilIface | .pointer none | .slice none 0 0 | .map none => true
  | _ => false
theorem VRel.flat_eq {R : Ren} {v v' : Value} (h : VRel R v v') (hf : flat v = true) : v' = v := by
  cases h <;> first | rfl | simp [flat] at hf
theorem VRel.of_flat (R : Ren) {v : Value} (hf : flat v = true) : VRel R v v := by
  unfold flat at hf
  split at hf
  · exact .bool _
  · exact .int _ _
  · exact .float _ _
  · exact .string _
  · exact .nilFunc
  · exact .nilIface
  · exact .nilPtr
  · exact .nilSlice
  · exact .nilMap
  · cases hf
def single : Value → Bool
  | .agg _ | .tuple _ => false
  | _ => true
theorem VRel.single {R : Ren} {v v' : Value} (h : VRel R v v') : single v' = single v := by cases h <;> rfl
theorem VRel.cells {R : Ren} {v v' : Value} (h : VRel R v v') : VRels R v.cells.toList v'.cells.toList := by
  cases h with
  | agg h1 ha => exact ⟨by simpa [Value.cells] using h1, fun i v v' a b => ha i v v' (by simpa [Value.cells] using a) (by simpa [Value.cells] using b)⟩
  | _ => exact VRels.cons (by constructor <;> assumption) (VRels.nil _)

/-- Values without places, aggregates of such. -/
def flat1 : Value → Bool
  | .agg cs => cs.toList.all flat
  | .tuple cs => cs.toList.all flat
  | .iface _ v => flat v
  | v => flat v

/-- Code that the second run goes through: no global variables, no constants with places, few temporaries. -/
def operandOk : Operand → Bool
  | .const v => flat1 v
  | .global _ => false
  | _ => true
def dstOk (n : Nat) : Option Tmp → Bool
  | some d => Nat.blt d n
  | none => true
def operOk (n : Nat) (o : Oper) : Bool := dstOk n o.dst && o.op.operands.toList.all operandOk
def codeOk (n : Nat) : Code → Bool
  | .region _ ops _ => ops.toList.all (operOk n)
  | .seq a b => codeOk n a && codeOk n b
  | .cond x a b => operandOk x && codeOk n a && codeOk n b
  | .block _ b => codeOk n b
  | .loop b => codeOk n b
  | .rangeFunc g ps a b => operandOk g && ps.toList.all (fun p => Nat.blt p n) && codeOk n a && codeOk n b
  | _ => true
def loopOk (n : Nat) (ps : Array Tmp) (a b : Code) : Bool := Nat.ble n lmax && ps.toList.all (fun p => Nat.blt p n) && codeOk n a && codeOk n b

inductive ORel (R : Ren) : Obj → Obj → Prop where
  | map {es es' : Array MapEntry} (h : es.size = es'.size)
      (he : ∀ (i : Nat) (e e' : MapEntry), es[i]? = some e → es'[i]? = some e' → e.born = e'.born ∧ e.key = e'.key ∧ flat e.key = true ∧ VRel R e.val e'.val) (c : Nat) : ORel R (.map es c) (.map es' c)
  | stringIter (s : ByteArray) (n : Nat) : ORel R (.stringIter s n) (.stringIter s n)
  | nilIter (a : Nat) (b : Array Nat) (c : Nat) : ORel R (.mapIter none a b c) (.mapIter none a b c)
  | mapIter {id : Nat} {p : Place} (h : R id = some p) (a : Nat) (b : Array Nat) (c : Nat) : ORel R (.mapIter (some id) a b c) (.mapIter (some p.block) a b c)
theorem ORel.mono {R R' : Ren} (hR : R.le R') {o o' : Obj} (h : ORel R o o') : ORel R' o o' := by
  cases h with
  | map h he c => exact .map h (fun i e e' a b => by obtain ⟨h1, h2, h3, h4⟩ := he i e e' a b; exact ⟨h1, h2, h3, h4.mono hR⟩) c
  | stringIter s n => exact .stringIter s n
  | nilIter a b c => exact .nilIter a b c
  | mapIter h a b c => exact .mapIter (hR _ _ h) a b c
theorem ORel.noCells {R : Ren} {o o' : Obj} (h : ORel R o o') : (∀ c e f, o' ≠ .cells c e f) ∧ (∀ c e f, o ≠ .cells c e f) := by
  cases h <;> exact ⟨fun _ _ _ => by simp, fun _ _ _ => by simp⟩

/-- Temporaries. -/
def TRel (R : Ren) (T : PT Value) (arr : Array Value) : Prop := ∀ t, VRel R (match T.get t with | some v => v | none => undef) (arr.getD t undef)
theorem TRel.mono {R R' : Ren} (hR : R.le R') {T : PT Value} {arr : Array Value} (h : TRel R T arr) : TRel R' T arr := fun t => (h t).mono hR

/-- The block holds the object. -/
inductive Holds (R : Ren) (w : World) (p : Place) : LObj → Prop where
  | cells {c : List Value} {e : TypeId} {s : Nat} {arr : Array Value} {fz : Nat × Nat} (hh : w.heap[p.block]? = some (.cells arr e fz)) (ht : arr.size = p.top) (hl : c.length = p.len) (hb : p.base + p.len ≤ p.top) (hs : p.esz = s) (hq : fz.1 ≤ fz.2)
      (hf : ∀ j, j < p.top → (decide (fz.1 ≤ j) && decide (j < fz.2)) = false)
      (hr : ∀ (j : Nat) (v : Value), c[j]? = some v → ∃ v', arr[p.base + j]? = some v' ∧ VRel R v v') : Holds R w p (.cells c e s)
  | obj {o o' : Obj} (hh : w.heap[p.block]? = some o') (hz : p.base = 0) (ho : ORel R o o') : Holds R w p (.obj o)
  | loop {r : LLoop} {r' : Loop} {q : Place} (hh : w.heap[p.block]? = some (.loop r')) (h1 : r'.state = r.state) (h2 : r'.pending = r.pending) (h3 : r'.params = r.params) (h4 : r'.assign = r.assign) (h5 : r'.body = r.body)
      (h6 : R r.defers = some q) (h7 : r'.defers = q.block) (ht : TRel R r.tmps r'.tmps) (hk : loopOk r'.tmps.size r.params r.assign r.body = true) : Holds R w p (.loop r)
  | held (hh : w.heap[p.block]? = some (.deferred (some []))) : Holds R w p .held

theorem Holds.keep {R R' : Ren} {w w' : World} {p : Place} {o : LObj} (h : Holds R w p o) (hR : R.le R') (hk : w'.heap[p.block]? = w.heap[p.block]?) : Holds R' w' p o := by
  cases h with
  | cells hh ht hl hb hs hq hf hr => exact .cells (hk.trans hh) ht hl hb hs hq hf (fun j v hv => by obtain ⟨v', h1, h2⟩ := hr j v hv; exact ⟨v', h1, h2.mono hR⟩)
  | obj hh hz ho => exact .obj (hk.trans hh) hz (ho.mono hR)
  | loop hh h1 h2 h3 h4 h5 h6 h7 ht h8 => exact .loop (hk.trans hh) h1 h2 h3 h4 h5 (hR _ _ h6) h7 (ht.mono hR) h8
  | held hh => exact .held (hk.trans hh)
theorem Holds.lt {R : Ren} {w : World} {p : Place} {o : LObj} (h : Holds R w p o) : p.block < w.heap.size := by
  have key : ∀ x, w.heap[p.block]? = some x → p.block < w.heap.size := fun x hx => by
    rcases Nat.lt_or_ge p.block w.heap.size with h | h
    · exact h
    · rw [Array.getElem?_eq_none h] at hx; cases hx
  cases h with
  | cells hh => exact key _ hh
  | obj hh => exact key _ hh
  | loop hh => exact key _ hh
  | held hh => exact key _ hh

/-- Blocks that are to stay as they are in a world. -/
structure Fr where
  w : World
  keep : Nat → Prop
  lt : ∀ k, keep k → k < w.heap.size
  hole : Nat → Prop
structure Kept (F : Fr) (w : World) : Prop where
  os : w.os = F.w.os
  tape : w.tape = F.w.tape
  output : w.output = F.w.output
  size : F.w.heap.size ≤ w.heap.size
  block : ∀ k, F.keep k → w.heap[k]? = F.w.heap[k]?
theorem Kept.alloc {F : Fr} {w : World} (h : Kept F w) (o : Obj) : Kept F (w.alloc o) :=
  ⟨h.os, h.tape, h.output, by have := h.size; simp; omega, fun k hk => (Below.heap_alloc w o k (Nat.lt_of_lt_of_le (F.lt k hk) h.size)).trans (h.block k hk)⟩

/-- Memory holds all the objects; what is to stay is as it was. -/
structure HRel (R : Ren) (w0 : Fr) (H : LH) (w : World) : Prop where
  live : ∀ (id : Nat) (o : LObj), H.at id = some o → ∃ p, R id = some p ∧ ¬ w0.keep p.block ∧ Holds R w p o
  one : ∀ (i j : Nat) (o o' : LObj) (p p' : Place), H.at i = some o → H.at j = some o' → R i = some p → R j = some p' → p.block = p'.block → i = j
  fresh : ∀ id, H.next ≤ id → R id = none
  below : Kept w0 w
  holes : ∀ id, w0.hole id → id < H.next ∧ R id = none

theorem HRel.get {R : Ren} {w0 : Fr} {w : World} {H : LH} (h : HRel R w0 H w) {id : Nat} {o : LObj} (ho : H.at id = some o) {p : Place} (hp : R id = some p) : ¬ w0.keep p.block ∧ Holds R w p o := by
  obtain ⟨q, hq, h1, h2⟩ := h.live id o ho
  rw [hp] at hq; injection hq with hq; subst hq
  exact ⟨h1, h2⟩
/-- All that there is, is to stay. -/
def Fr.all (w : World) : Fr := ⟨w, fun k => k < w.heap.size, fun _ h => h, fun _ => False⟩
theorem HRel.empty (w : World) : HRel (fun _ => none) (Fr.all w) .empty w :=
  ⟨fun id o h => by simp [LH.empty, LH.at, PT.get_nil] at h, fun i j o o' p p' h => by simp [LH.empty, LH.at, PT.get_nil] at h, fun _ _ => rfl, ⟨rfl, rfl, rfl, Nat.le_refl _, fun _ _ => rfl⟩, fun _ h => h.elim⟩
theorem HRel.below_all {R : Ren} {w w' : World} {H : LH} (h : HRel R (Fr.all w) H w') : Below w.heap.size w w' := ⟨h.below.os, h.below.tape, h.below.output, h.below.size, fun k hk => h.below.block k hk⟩
theorem HRel.drew {R : Ren} {w0 : Fr} {w : World} {H : LH} (h : HRel R w0 H w) : HRel R w0 H { w with drawn := w.drawn + 1 } :=
  ⟨fun id o ho => by obtain ⟨p, h1, h2, h3⟩ := h.live id o ho; exact ⟨p, h1, h2, h3.keep (Ren.le_refl R) rfl⟩, h.one, h.fresh, ⟨h.below.os, h.below.tape, h.below.output, h.below.size, h.below.block⟩, h.holes⟩

/-- One more object, in a new block. -/
def Ren.add (R : Ren) (id : Nat) (p : Place) : Ren := fun j => if j = id then some p else R j
theorem Ren.le_add {R : Ren} {id : Nat} (p : Place) (h : R id = none) : R.le (R.add id p) := fun j q hq => by
  unfold Ren.add
  by_cases e : j = id
  · subst e; rw [h] at hq; cases hq
  · rw [if_neg e]; exact hq
theorem Ren.add_self (R : Ren) (id : Nat) (p : Place) : R.add id p id = some p := by simp [Ren.add]

theorem HRel.new {R : Ren} {w0 : Fr} {w : World} {H : LH} (h : HRel R w0 H w) (hm : (0 : Nat) < 1) {o : LObj} {x : Obj} {p : Place} (hp : p.block = w.heap.size)
    (ho : ∀ R', R.le R' → R' H.next = some p → Holds R' (w.alloc x) p o) : HRel (R.add H.next p) w0 (H.new o) (w.alloc x) := by
  have hf := h.fresh H.next (Nat.le_refl _)
  have hle := Ren.le_add p hf
  have hsz := h.below.size
  refine ⟨fun id q hq => ?_, fun i j q q' r r' hi hj hri hrj e => ?_, fun id hid => ?_, h.below.alloc x, fun id hid => ?_⟩
  · rw [LH.at_new hm] at hq
    split at hq
    · rename_i e; subst e; injection hq with hq; subst hq
      exact ⟨p, Ren.add_self _ _ _, fun q => by have := w0.lt _ q; omega, ho _ hle (Ren.add_self _ _ _)⟩
    · obtain ⟨r, h1, h2, h3⟩ := h.live id q hq
      exact ⟨r, hle _ _ h1, h2, h3.keep hle (Below.heap_alloc _ _ _ h3.lt)⟩
  · rw [LH.at_new hm] at hi hj
    have old : ∀ (k : Nat) (u : LObj) (s : Place), k ≠ H.next → H.at k = some u → R.add H.next p k = some s → s.block < w.heap.size := fun k u s hk hu hs => by
      obtain ⟨s', h1, _, h3⟩ := h.live k u hu
      rw [hle _ _ h1] at hs; injection hs with hs; subst hs
      exact h3.lt
    split at hi
    · rename_i ei
      split at hj
      · rename_i ej; rw [ei, ej]
      · rename_i ej
        subst ei
        rw [Ren.add_self] at hri; injection hri with hri; subst hri
        have := old j _ _ ej hj hrj
        omega
    · rename_i ei
      split at hj
      · rename_i ej
        subst ej
        rw [Ren.add_self] at hrj; injection hrj with hrj; subst hrj
        have := old i _ _ ei hi hri
        omega
      · rename_i ej
        refine h.one i j _ _ r r' hi hj ?_ ?_ e
        · simpa [Ren.add, ei] using hri
        · simpa [Ren.add, ej] using hrj
  · have : id ≠ H.next := by simp [LH.new] at hid; omega
    unfold Ren.add
    rw [if_neg this]
    exact h.fresh id (by simp [LH.new] at hid; omega)
  · have := h.holes id hid
    refine ⟨by simp [LH.new]; omega, ?_⟩
    unfold Ren.add
    rw [if_neg (by omega)]
    exact this.2

/-- An object is changed in its block. -/
theorem HRel.turn {R : Ren} {w0 : Fr} {w w' : World} {H : LH} (h : HRel R w0 H w) {id : Nat} (hm : (0 : Nat) < 1) {o o' : LObj} {p : Place} (hid : H.at id = some o) (hp : R id = some p)
    (hk : ∀ b, b ≠ p.block → w'.heap[b]? = w.heap[b]?) (hz : w'.heap.size = w.heap.size) (hos : w'.os = w.os) (htp : w'.tape = w.tape) (hout : w'.output = w.output) (ho : Holds R w' p o') : HRel R w0 (H.put id (some o')) w' := by
  obtain ⟨hb, _⟩ := h.get hid hp
  refine ⟨fun j q hq => ?_, fun i j q q' r r' hi hj hri hrj e => ?_, fun j hj => h.fresh j (by simpa [LH.put] using hj), ?_, h.holes⟩
  · rw [LH.at_put hm] at hq
    split at hq
    · rename_i e; subst e; injection hq with hq; subst hq; exact ⟨p, hp, hb, ho⟩
    · rename_i e
      obtain ⟨r, h1, h2, h3⟩ := h.live j q hq
      refine ⟨r, h1, h2, h3.keep (Ren.le_refl R) (hk _ fun ee => e (h.one j id _ _ _ _ hq hid h1 hp ee))⟩
  · rw [LH.at_put hm] at hi hj
    have hi' : ∃ u, H.at i = some u := by split at hi; (· rename_i e; subst e; exact ⟨_, hid⟩); exact ⟨_, hi⟩
    have hj' : ∃ u, H.at j = some u := by split at hj; (· rename_i e; subst e; exact ⟨_, hid⟩); exact ⟨_, hj⟩
    obtain ⟨u, hu⟩ := hi'; obtain ⟨u', hu'⟩ := hj'
    exact h.one i j _ _ r r' hu hu' hri hrj e
  · exact ⟨hos.trans h.below.os, htp.trans h.below.tape, hout.trans h.below.output, by rw [hz]; exact h.below.size, fun k hk' => (hk k (fun e => hb (e ▸ hk'))).trans (h.below.block k hk')⟩
end Go.Proofs.YtiedaccgagnofaaGreat
