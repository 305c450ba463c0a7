/- Single operations of the second run, and what the program's own come to beside them: memory and structs. -/
import Derived.Test.YtiedaccgagnofaaGreatC
namespace Go.Proofs.YtiedaccgagnofaaGreat
open Go.RowKit

/-- What is known of the types. -/
structure Tab where
  desc : TypeId → Option TypeDesc
  info : TypeId → Option (Value × Nat × Nat)
structure Tab.Ok (C : Tab) (P : Program) : Prop where
  desc : ∀ t d, C.desc t = some d → P.underlying t = some d
  info : ∀ t z n b, C.info t = some (z, n, b) → ∃ i, P.info? t = some i ∧ i.zero = some z ∧ i.size = n ∧ i.bytes = b ∧ z.cells.size = n ∧ z.cells.toList.all flat = true

def isAggD : TypeDesc → Bool
  | .struct _ | .array _ _ => true
  | _ => false

section
variable {P : Program} {C : Tab} (hC : C.Ok P) {R : Ren} {w0 : Fr} {w : World} {H : LH}
 include hC

theorem run_isAggD {t : TypeId} {d : TypeDesc} (h : C.desc t = some d) (w : World) : (isAgg t).run P w = .ok (isAggD d) w := by
  unfold isAgg
  simp only [Sem.run_bind, run_underlying (hC.desc t d h), Result.andThen_ok]
  cases d <;> rfl
theorem run_sizeD {t : TypeId} {z : Value} {n b : Nat} (h : C.info t = some (z, n, b)) (w : World) : (sizeOf t).run P w = .ok n w := by
  obtain ⟨i, h1, _, h3, _⟩ := hC.info t z n b h
  simp [sizeOf, typeInfo, h1, h3]
theorem run_zeroD {t : TypeId} {z : Value} {n b : Nat} (h : C.info t = some (z, n, b)) (w : World) : (zeroValue t).run P w = .ok z w := by
  obtain ⟨i, h1, h2, _⟩ := hC.info t z n b h
  simp [zeroValue, typeInfo, h1, h2]
 omit hC in
theorem VRels.flats {xs : List Value} (h : xs.all flat = true) : VRels R xs xs := ⟨rfl, fun i v v' a b => by
  rw [a] at b; injection b with b; subst b
  exact VRel.of_flat R (List.all_eq_true.1 h _ (List.mem_of_getElem? a))⟩
theorem zero_rel {t : TypeId} {z : Value} {n b : Nat} (h : C.info t = some (z, n, b)) : VRel R z z := by
  obtain ⟨i, _, _, _, _, _, hf⟩ := hC.info t z n b h
  cases z with
  | agg a =>
    refine .agg rfl fun i v v' x y => ?_
    rw [x] at y; injection y with y; subst y
    refine VRel.of_flat R (List.all_eq_true.1 hf _ ?_)
    simpa [Value.cells] using Array.mem_of_getElem? x
  | tuple a => simp [Value.cells, flat] at hf
  | _ => exact VRel.of_flat R (by simpa [Value.cells] using hf)

/-! ### load, store, new variables -/
noncomputable def lload (C : Tab) (H : LH) (t : TypeId) (a : Value) : Option Value :=
  match a with
  | .pointer (some ⟨id, off, none⟩) =>
    match H.at id, C.desc t with
    | some (.cells c _ _), some d =>
      match isAggD d with
      | true => match C.info t with
        | some (_, n, _) => match Nat.ble (off + n) c.length with
          | true => some (.agg ((c.drop off).take n).toArray)
          | false => none
        | none => none
      | false => c[off]?
    | _, _ => none
  | _ => none

theorem lload_ok {t : TypeId} {a a' v : Value} (h : HRel R w0 H w) (ha : VRel R a a') (hl : lload C H t a = some v) : ∃ v', (Instr.loadAt t a').run P w = .ok v' w ∧ VRel R v v' := by
  unfold lload at hl
  split at hl
  · rename_i id off
    cases ha with
    | ptr hp _ =>
    split at hl
    · rename_i c e s d ho hd
      split at hl
      · rename_i hag
        split at hl
        · rename_i z n b hi
          split at hl
          · rename_i hle
            injection hl with hl; subst hl
            obtain ⟨ys, h1, h2⟩ := h.slice hp ho off n (Nat.le_of_ble_eq_true hle)
            have hyl : ys.length = n := by rw [← h1.1]; simp; have := Nat.le_of_ble_eq_true hle; omega
            refine ⟨.agg ys.toArray, ?_, .agg (by simpa using h1.1) fun i v v' x y => h1.2 i v v' (by simpa using x) (by simpa using y)⟩
            have := run_loadCells_list (P := P) w _ ys h2
            rw [hyl] at this
            simp [Instr.loadAt, Instr.sureAddr, loadVar, run_isAggD hC hd, hag, run_sizeD hC hi, this]
          · cases hl
        · cases hl
      · rename_i hag
        obtain ⟨v', h1, h2⟩ := h.cell hp ho hl
        refine ⟨v', ?_, h2⟩
        simp [Instr.loadAt, Instr.sureAddr, loadVar, run_isAggD hC hd, hag, h1, load, Sem.run]
    · cases hl
  · cases hl

noncomputable def lstore (C : Tab) (H : LH) (t : TypeId) (a v : Value) : Option LH :=
  match a with
  | .pointer (some ⟨id, off, none⟩) =>
    match H.at id, C.info t with
    | some (.cells c e s), some (_, n, _) =>
      match Nat.beq v.cells.size n && Nat.ble (off + n) c.length && Nat.blt 0 1 && v.cells.toList.all single with
      | true => some (H.put id (some (.cells (splice c off v.cells.toList) e s)))
      | false => none
    | _, _ => none
  | _ => none

theorem lstore_ok {t : TypeId} {a a' v v' : Value} {H' : LH} (h : HRel R w0 H w) (ha : VRel R a a') (hv : VRel R v v') (hl : lstore C H t a v = some H') : ∃ w', (Instr.storeAt t a' v').run P w = .ok () w' ∧ HRel R w0 H' w' := by
  unfold lstore at hl
  split at hl
  · rename_i id off
    cases ha with
    | ptr hp _ =>
    split at hl
    · rename_i c e s z n b ho hi
      split at hl
      · rename_i hle
        simp only [Bool.and_eq_true] at hle
        obtain ⟨⟨⟨h1, h2⟩, h3⟩, h4⟩ := hle
        injection hl with hl; subst hl
        have h1 := beq_t h1
        have h2 := Nat.le_of_ble_eq_true h2
        have h3 : (0 : Nat) < 1 := Nat.le_of_ble_eq_true h3
        have hlen : v.cells.toList.length = n := by simpa using h1
        refine ⟨_, ?_, h.write h3 hp ho off hv.cells (by omega)⟩
        have := h.run_store P hp ho off hv.cells (by omega) h4
        have hsz : v'.cells.size = n := by have := hv.cells.1; simp at this hlen; omega
        simp [Instr.storeAt, Instr.sureAddr, storeVar, run_sizeD hC hi, hsz, this]
      · cases hl
    · cases hl
  · cases hl

noncomputable def lnew (H : LH) (e : TypeId) (v : Value) : Option (Value × LH) :=
  match Nat.blt 0 1 with
  | true => some (.pointer (some ⟨H.next, 0, none⟩), H.new (.cells v.cells.toList e 1))
  | false => none
noncomputable def lalloc (C : Tab) (H : LH) (e : TypeId) : Option (Value × LH) :=
  match C.info e with
  | some (z, _, _) => lnew H e z
  | none => none

 omit hC in
theorem lnew_ok {e : TypeId} {v v' r : Value} {H' : LH} (h : HRel R w0 H w) (hv : VRel R v v') (hl : lnew H e v = some (r, H')) :
    ∃ R' r', (Instr.box e v').run P w = .ok r' (w.alloc (.cells v'.cells e)) ∧ R.le R' ∧ VRel R' r r' ∧ HRel R' w0 H' (w.alloc (.cells v'.cells e)) := by
  unfold lnew at hl
  split at hl
  · rename_i hm
    injection hl with hl; injection hl with h1 h2; subst h1; subst h2
    have hm : (0 : Nat) < 1 := Nat.le_of_ble_eq_true hm
    refine ⟨_, _, rfl, Ren.le_add _ (h.fresh _ (Nat.le_refl _)), ?_, h.row hm e 1 hv.cells⟩
    have := VRel.ptr (Ren.add_self R H.next ⟨w.heap.size, 0, v.cells.toList.length, v.cells.toList.length, 1⟩) 0
    simpa using this
  · cases hl
theorem lalloc_ok {e : TypeId} {r : Value} {H' : LH} (h : HRel R w0 H w) (hl : lalloc C H e = some (r, H')) :
    ∃ R' r' w', (Instr.alloc e true (.tuple #[])).run P w = .ok r' w' ∧ R.le R' ∧ VRel R' r r' ∧ HRel R' w0 H' w' := by
  unfold lalloc at hl
  split at hl
  · rename_i z n b hi
    obtain ⟨R', r', h1, h2, h3, h4⟩ := lnew_ok (P := P) h (zero_rel hC hi) hl
    refine ⟨R', r', _, ?_, h2, h3, h4⟩
    rw [← h1]
    simp [Instr.alloc, run_zeroD hC hi, Instr.box]
  · cases hl

/-! ### addresses -/
noncomputable def lfieldAddr (C : Tab) (s : TypeId) (x : Value) (f : Nat) : Option Value :=
  match x with
  | .pointer (some ⟨id, off, none⟩) =>
    match C.desc s with
    | some (.struct fs) => match fs[f]? with
      | some fl => match C.info fl.type with
        | some (_, n, _) => match Nat.beq n 0 with
          | true => none
          | false => some (.pointer (some ⟨id, off + fl.offset, none⟩))
        | none => none
      | none => none
    | _ => none
  | _ => none
theorem lfieldAddr_ok {s : TypeId} {x x' r : Value} {f : Nat} (hx : VRel R x x') (hl : lfieldAddr C s x f = some r) : ∃ r', (Instr.fieldAt s x' f).run P w = .ok r' w ∧ VRel R r r' := by
  unfold lfieldAddr at hl
  split at hl
  · rename_i id off
    cases hx with
    | ptr hp _ =>
    split at hl
    · rename_i fs hd
      split at hl
      · rename_i fl hfl
        split at hl
        · rename_i z n b hi
          split at hl
          · cases hl
          · rename_i hn
            injection hl with hl; subst hl
            have hn := beq_f hn
            refine ⟨_, ?_, .ptr hp (off + fl.offset)⟩
            simp [Instr.fieldAt, run_underlying (hC.desc _ _ hd), hfl, Instr.sureAddr, fieldPlace, run_sizeD hC hi, hn, add_off, Nat.add_assoc]
        · cases hl
      · cases hl
    · cases hl
  · cases hl

noncomputable def lindexAddr (C : Tab) (t : TypeId) (x i : Value) : Option Value :=
  match i with
  | .int _ n =>
    match C.desc t, x with
    | some (.slice e), .slice (some ⟨id, off, none⟩) len _ => match C.info e, decide (0 ≤ n) && decide (n < (len : Int)) with
      | some (_, s, _), true => some (.pointer (some ⟨id, off + n.toNat * s, none⟩))
      | _, _ => none
    | some (.array len e), .pointer (some ⟨id, off, none⟩) => match C.info e, decide (0 ≤ n) && decide (n < (len : Int)) with
      | some (_, s, _), true => some (.pointer (some ⟨id, off + n.toNat * s, none⟩))
      | _, _ => none
    | _, _ => none
  | _ => none
theorem lindexAddr_ok {t : TypeId} {x x' i r : Value} (hx : VRel R x x') (hl : lindexAddr C t x i = some r) : ∃ r', (Instr.indexAt t x' i).run P w = .ok r' w ∧ VRel R r r' := by
  unfold lindexAddr at hl
  split at hl
  · rename_i k n
    split at hl
    · rename_i e id off len cap hd
      split at hl
      · rename_i z s b hi hb
        simp only [Bool.and_eq_true, decide_eq_true_eq] at hb
        injection hl with hl; subst hl
        cases hx with
        | slice hp _ _ _ cap' _ _ =>
          refine ⟨_, ?_, .ptr hp (off + n.toNat * s)⟩
          simp [Instr.indexAt, run_underlying (hC.desc _ _ hd), asIntOf, run_sizeD hC hi, hb, add_off, Nat.add_assoc]
        | empty => omega
      · cases hl
    · rename_i len e id off hd
      split at hl
      · rename_i z s b hi hb
        simp only [Bool.and_eq_true, decide_eq_true_eq] at hb
        injection hl with hl; subst hl
        cases hx with
        | ptr hp _ =>
          refine ⟨_, ?_, .ptr hp (off + n.toNat * s)⟩
          simp [Instr.indexAt, run_underlying (hC.desc _ _ hd), asIntOf, Instr.sureAddr, run_sizeD hC hi, hb, add_off, Nat.add_assoc]
      · cases hl
    · cases hl
  · cases hl

/-! ### parts of aggregates -/
noncomputable def lpart (C : Tab) (t : TypeId) (cs : Array Value) (off : Nat) : Option Value :=
  match C.desc t with
  | some d => match isAggD d with
    | true => match C.info t with
      | some (_, n, _) => some (.agg (cs.extract off (off + n)))
      | none => none
    | false => cs[off]?
  | none => none
theorem lpart_ok {t : TypeId} {cs cs' : Array Value} {off : Nat} {r : Value} (hv : VRels R cs.toList cs'.toList) (hl : lpart C t cs off = some r) : ∃ r', (part t cs' off).run P w = .ok r' w ∧ VRel R r r' := by
  unfold lpart at hl
  split at hl
  · rename_i d hd
    split at hl
    · rename_i hag
      split at hl
      · rename_i z n b hi
        injection hl with hl; subst hl
        refine ⟨.agg (cs'.extract off (off + n)), ?_, ?_⟩
        · simp [part, run_isAggD hC hd, hag, run_sizeD hC hi]
        · have hs : cs.size = cs'.size := by simpa using hv.1
          refine .agg (by simp [hs]) fun i v v' x y => ?_
          rw [Array.getElem?_extract] at x y
          split at x
          · rename_i hlt
            rw [if_pos (by rw [← hs]; exact hlt)] at y
            exact hv.2 (off + i) v v' (by simpa using x) (by simpa using y)
          · cases x
      · cases hl
    · rename_i hag
      obtain ⟨v', h1, h2⟩ := hv.get (by simpa using hl)
      refine ⟨v', ?_, h2⟩
      simp at h1
      simp [part, run_isAggD hC hd, hag, h1]
  · cases hl

noncomputable def lfield (C : Tab) (t : TypeId) (x : Value) (f : Nat) : Option Value :=
  match x, C.desc t with
  | .agg cs, some (.struct fs) => match fs[f]? with
    | some fl => lpart C fl.type cs fl.offset
    | none => none
  | _, _ => none
theorem lfield_ok {t : TypeId} {x x' r : Value} {f : Nat} (hx : VRel R x x') (hl : lfield C t x f = some r) : ∃ r', (Instr.field t x' f).run P w = .ok r' w ∧ VRel R r r' := by
  unfold lfield at hl
  split at hl
  · rename_i cs fs hd
    split at hl
    · rename_i fl hfl
      have hv := hx.cells
      cases hx with
      | @agg _ a' h1 ha =>
        obtain ⟨r', h3, h4⟩ := lpart_ok hC (w := w) (cs' := a') hv hl
        refine ⟨r', ?_, h4⟩
        simp [Instr.field, run_underlying (hC.desc _ _ hd), hfl, asAgg, h3]
    · cases hl
  · cases hl

noncomputable def lextract (x : Value) (i : Nat) : Option Value :=
  match x with
  | .tuple vs => vs[i]?
  | _ => none
 omit hC in
theorem lextract_ok {x x' r : Value} {i : Nat} (hx : VRel R x x') (hl : lextract x i = some r) : ∃ r', (Instr.extract x' i).run P w = .ok r' w ∧ VRel R r r' := by
  unfold lextract at hl
  split at hl
  · rename_i vs
    cases hx with
    | @tuple _ a' h1 ha =>
      have hs : i < vs.size := (Array.getElem?_eq_some_iff.1 hl).1
      have hy : a'[i]? = some (a'[i]'(by omega)) := Array.getElem?_eq_getElem _
      exact ⟨_, by simp [Instr.extract, hy], ha i r _ hl hy⟩
  · cases hl
end
end Go.Proofs.YtiedaccgagnofaaGreat
