/- What stands in for some functions; the tables together. -/
import Derived.Test.YtiedaccgagnofaaGreatRl
import Derived.Conc.MuLone
import Derived.Laws.Externs
namespace Go.Proofs.YtiedaccgagnofaaGreat
open Go.RowKit
set_option maxRecDepth 1000000

abbrev muLink : Go.Conc.Locks.MuLink := { lock := 37, unlock := 38, ilock := 61, iunlock := 62, lockSlow := 95, unlockSlow := 98, disable := 91, enable := 93, acquire := 94, relMerge := 96, cas32 := 92, add32 := 97, tMutex := 64, tIMutex := 62, tPMutex := 159, tPIMutex := 218, tPI32 := 220, tUP := 222, tNoCopy := 59, tU32 := 60 }
theorem muLib : Go.Conc.Locks.MuLib Tryz.prog muLink :=
  ⟨Tryz.func37, Tryz.func38, Tryz.func61, Tryz.func62, Tryz.func91, Tryz.func93, Tryz.func94, Tryz.func96, Tryz.func92, Tryz.func97, Tryz.underlying62, Tryz.runUnderlying62, Tryz.sizeOf62, Tryz.isAgg62, Tryz.zeroValue62, Tryz.underlying64, Tryz.runUnderlying64, Tryz.sizeOf64, Tryz.isAgg64, Tryz.zeroValue64, Tryz.underlying159, Tryz.runUnderlying159, Tryz.sizeOf159, Tryz.isAgg159, Tryz.zeroValue159, Tryz.underlying218, Tryz.runUnderlying218, Tryz.sizeOf218, Tryz.isAgg218, Tryz.zeroValue218, Tryz.underlying220, Tryz.runUnderlying220, Tryz.sizeOf220, Tryz.isAgg220, Tryz.zeroValue220, Tryz.underlying222, Tryz.runUnderlying222, Tryz.sizeOf222, Tryz.isAgg222, Tryz.zeroValue222, Tryz.underlying59, Tryz.runUnderlying59, Tryz.sizeOf59, Tryz.isAgg59, Tryz.zeroValue59, Tryz.underlying21, Tryz.runUnderlying21, Tryz.sizeOf21, Tryz.isAgg21, Tryz.zeroValue21, by kernel_rfl⟩

/-- A lock's state word turns. -/
noncomputable def turnS (old new : Int) (args : List Value) (H : LH) : Option (Value × LH) :=
  match args with
  | [.pointer (some ⟨id, off, none⟩)] => match H.at id, Nat.blt 0 1 with
    | some (.cells c e s), true => match c[off]? with
      | some (.int .i32 n) => match decide (n = old) with
        | true => some (.tuple #[], H.put id (some (.cells (splice c off [.int .i32 new]) e s)))
        | false => none
      | _ => none
    | _, _ => none
  | _ => none
theorem turnS_ok {old new : Int} {args : List Value} {H H' : LH} {v : Value} (hl : turnS old new args H = some (v, H')) {R : Ren} {w0 : Fr} {w : World} {args' : Array Value} (h : HRel R w0 H w) (ha : VRels R args args'.toList) :
    ∃ a, args' = #[.pointer (some a)] ∧ w.cell? a = some (.int .i32 old) ∧ w.frozen? a = false ∧ v = .tuple #[] ∧ HRel R w0 H' (w.setCell a (.int .i32 new)) := by
  unfold turnS at hl
  split at hl
  · rename_i id off
    split at hl
    · rename_i c e s hat hlt
      have hlt := Nat.le_of_ble_eq_true hlt
      split at hl
      · rename_i n hc
        split at hl
        · rename_i hn
          have hn : n = old := by simpa using hn
          subst hn
          injection hl with hl; injection hl with h1 h2; subst h1; subst h2
          obtain ⟨y, ys, e1, e2, e3⟩ := ha.uncons
          have : ys = [] := List.eq_nil_of_length_eq_zero (by have := e3.1; simpa using this.symm)
          subst this
          cases e2 with
          | @ptr _ p hp _ =>
            obtain ⟨v', k1, k2⟩ := h.cell hp hat hc
            cases k2
            obtain ⟨l1, l2, l3⟩ := h.len hp hat
            have hlen := (List.getElem?_eq_some_iff.1 hc).1
            exact ⟨⟨p.block, p.base + off, none⟩, by rw [← Array.toArray_toList (xs := args'), e1], k1, h.free hp hat (by omega), rfl, h.write hlt hp hat off (.cons (.int _ _) (.nil R)) (by simp; omega)⟩
        · cases hl
      · cases hl
    · cases hl
  · cases hl

/-- The bits of a float. -/
noncomputable def bitsS (args : List Value) (H : LH) : Option (Value × LH) :=
  match args with
  | [.float .f64 b] => some (.int .u64 b, H)
  | _ => none
noncomputable def fromS (args : List Value) (H : LH) : Option (Value × LH) :=
  match args with
  | [.int .u64 n] => some (.float .f64 n.toNat, H)
  | _ => none
theorem bitsS_ok {args : List Value} {H H' : LH} {v : Value} (hl : bitsS args H = some (v, H')) {R : Ren} {args' : Array Value} (ha : VRels R args args'.toList) (w : World) :
    H' = H ∧ VRel R v v ∧ (callFunc 109 args').run Tryz.prog w = .ok (.value v) w := by
  unfold bitsS at hl
  split at hl
  · rename_i b
    injection hl with hl; injection hl with h1 h2; subst h1; subst h2
    obtain ⟨y, ys, e1, e2, e3⟩ := ha.uncons
    have : ys = [] := List.eq_nil_of_length_eq_zero (by have := e3.1; simpa using this.symm)
    subst this
    cases e2
    have e4 : args' = #[.float .f64 b] := by rw [← Array.toArray_toList (xs := args'), e1]
    refine ⟨rfl, .int _ _, ?_⟩
    rw [e4, run_callFunc_extern Tryz.func109 (by kernel_rfl) (by kernel_rfl) (by kernel_rfl) (e := Extern.MathFloatBits.float64bits) (by kernel_rfl)]
    rfl
  · cases hl
theorem fromS_ok {args : List Value} {H H' : LH} {v : Value} (hl : fromS args H = some (v, H')) {R : Ren} {args' : Array Value} (ha : VRels R args args'.toList) (w : World) :
    H' = H ∧ VRel R v v ∧ (callFunc 108 args').run Tryz.prog w = .ok (.value v) w := by
  unfold fromS at hl
  split at hl
  · rename_i b
    injection hl with hl; injection hl with h1 h2; subst h1; subst h2
    obtain ⟨y, ys, e1, e2, e3⟩ := ha.uncons
    have : ys = [] := List.eq_nil_of_length_eq_zero (by have := e3.1; simpa using this.symm)
    subst this
    cases e2
    have e4 : args' = #[.int .u64 b] := by rw [← Array.toArray_toList (xs := args'), e1]
    refine ⟨rfl, .float _ _, ?_⟩
    rw [e4, run_callFunc_extern Tryz.func108 (by kernel_rfl) (by kernel_rfl) (by kernel_rfl) (e := Extern.MathFloatBits.float64frombits) (by kernel_rfl)]
    rfl
  · cases hl

/-- The stamps rise, and are below this one. -/
noncomputable def bornsOk (clock : Nat) : Nat → List MapEntry → Bool
  | _, [] => true
  | lo, e :: l => Nat.ble lo e.born && Nat.blt e.born clock && bornsOk clock (e.born + 1) l
/-- How long the files are. -/
noncomputable def roomLens (H : LH) : List MapEntry → Option (List Nat)
  | [] => some []
  | e :: l => match e.val with
    | .pointer (some ⟨id, off, none⟩) => match H.at id with
      | some (.cells c _ _) => match c[off]?, roomLens H l with
        | some (.slice _ n _), some ls => some (n :: ls)
        | _, _ => none
      | _ => none
    | _ => none
/-- What room there is: the most, less what the files hold. -/
noncomputable def roomS (args : List Value) (H : LH) : Option (Value × LH) :=
  match args with
  | [.pointer (some ⟨id, off, none⟩)] => match H.at id with
    | some (.cells c _ _) => match c[off + 2]?, c[off + 3]? with
      | some (.int .i64 (.ofNat most)), some (.map (some m)) => match H.at m with
        | some (.obj (.map es clock)) => match roomLens H es.toList, bornsOk clock 0 es.toList with
          | some ls, true => match Nat.ble ls.sum 1152921504606846976 && Nat.ble most 1152921504606846976 with
            | true => some (.int .i64 (.ofNat (most - ls.sum)), H)
            | false => none
          | _, _ => none
        | _ => none
      | _, _ => none
    | _ => none
  | _ => none

noncomputable def specT (f : FuncId) : Option (List Value → LH → Option (Value × LH)) :=
  match Nat.beq f 61 with
  | true => some (turnS 0 1)
  | false => match Nat.beq f 62 with
    | true => some (turnS 1 0)
    | false => match Nat.beq f 226 with
      | true => some roomS
      | false => none
noncomputable def extT (f : FuncId) : Option (List Value → LH → Option (Value × LH)) :=
  match Nat.beq f 108 with
  | true => some fromS
  | false => match Nat.beq f 109 with
    | true => some bitsS
    | false => none
noncomputable def CT0 : Ctx := Ctx.mk (Tab.mk descP.get infoP.get) Tryz.prog fnP.get methP specT (fun _ => false) extT

theorem CT0_tab : CT0.toTab.Ok CT0.P := by
  refine ⟨fun t d h => ?_, fun t z n b h => ?_⟩
  · exact rows_map desc_rows (PT.rows_mem _ _ _ h)
  · have h : infoP.get t = some (z, n, b) := h
    have hm := PT.rows_mem _ _ _ h
    have h1 := rows_map info_rows hm
    have h2 := List.all_eq_true.1 info_flat _ hm
    simp only [Bool.and_eq_true] at h2
    cases hi : Tryz.prog.info? t with
    | none => rw [hi] at h1; cases h1
    | some i =>
      rw [hi] at h1
      simp only [Option.map_some, Option.some.injEq, Prod.mk.injEq] at h1
      exact ⟨i, hi, h1.1, h1.2.1, h1.2.2, by rw [← Array.length_toList]; exact beq_t h2.1, h2.2⟩

theorem meth_row (t : TypeId) (f : FuncId) (h : ((Tryz.prog.info? t).bind fun i => (i.methods.find? fun m => m.name == "flume/disk.do").map fun m => (m.path, m.func)) = some (#[], some (f, false))) :
    ∃ i m, Tryz.prog.info? t = some i ∧ i.methods.find? (fun m => m.name == "flume/disk.do") = some m ∧ m.path = #[] ∧ m.func = some (f, false) := by
  cases hi : Tryz.prog.info? t with
  | none => rw [hi] at h; cases h
  | some i =>
    rw [hi] at h
    simp only [Option.bind_some] at h
    cases hm : i.methods.find? (fun m => m.name == "flume/disk.do") with
    | none => rw [hm] at h; cases h
    | some m =>
      rw [hm] at h
      simp only [Option.map_some, Option.some.injEq, Prod.mk.injEq] at h
      exact ⟨i, m, rfl, hm, h.1, h.2⟩
theorem meth_367 : ((Tryz.prog.info? 367).bind fun i => (i.methods.find? fun m => m.name == "flume/disk.do").map fun m => (m.path, m.func)) = some (#[], some (381, false)) := by kernel_rfl
theorem meth_372 : ((Tryz.prog.info? 372).bind fun i => (i.methods.find? fun m => m.name == "flume/disk.do").map fun m => (m.path, m.func)) = some (#[], some (383, false)) := by kernel_rfl
theorem meth_398 : ((Tryz.prog.info? 398).bind fun i => (i.methods.find? fun m => m.name == "flume/disk.do").map fun m => (m.path, m.func)) = some (#[], some (385, false)) := by kernel_rfl

theorem CT0_sound : CT0.Sound := by
  refine ⟨CT0_tab, fun f g h => ?_, fun t n f h => ?_, fun f e h R w0 H H' w args args' v hr ha hl => ?_⟩
  · have h : fnP.get f = some g := h
    have hm := PT.rows_mem _ _ _ h
    have h2 := List.all_eq_true.1 fn_body _ hm
    simp only [Bool.and_eq_true, Bool.not_eq_true'] at h2
    exact ⟨rows_map fn_rows hm, h2.1, h2.2⟩
  · replace h : methP t n = some f := h
    unfold methP at h
    split at h
    · rename_i hn
      have hn := eq_of_beq hn
      subst hn
      split at h
      · injection h with h; subst h
        obtain ⟨i, m, h1, h2, h3, h4⟩ := meth_row 367 381 meth_367
        exact ⟨i, m, h1, h2, h3, h4, _, Tryz.underlying367, fun e => by simp⟩
      · injection h with h; subst h
        obtain ⟨i, m, h1, h2, h3, h4⟩ := meth_row 372 383 meth_372
        exact ⟨i, m, h1, h2, h3, h4, _, Tryz.underlying372, fun e => by simp⟩
      · injection h with h; subst h
        obtain ⟨i, m, h1, h2, h3, h4⟩ := meth_row 398 385 meth_398
        exact ⟨i, m, h1, h2, h3, h4, _, Tryz.underlying398, fun e => by simp⟩
      · cases h
    · cases h
  · replace h : extT f = some e := h
    unfold extT at h
    split at h
    · rename_i hf
      have hf := beq_t hf
      subst hf
      injection h with h; subst h
      obtain ⟨h1, h2, h3⟩ := fromS_ok hl ha w
      subst h1
      exact ⟨R, v, w, h3, Ren.le_refl R, h2, hr⟩
    · split at h
      · rename_i hf
        have hf := beq_t hf
        subst hf
        injection h with h; subst h
        obtain ⟨h1, h2, h3⟩ := bitsS_ok hl ha w
        subst h1
        exact ⟨R, v, w, h3, Ren.le_refl R, h2, hr⟩
      · cases h

/-- What is claimed of what stands in for a function. -/
def SpecOk (P : Program) (f : FuncId) (s : List Value → LH → Option (Value × LH)) : Prop := ∀ args H v H', s args H = some (v, H') → ∀ (R : Ren) (w0 : Fr) (w : World) (args' : Array Value), HRel R w0 H w → VRels R args args'.toList →
    Calls P f args' w fun
      | .returned v', w' => ∃ R', R.le R' ∧ VRel R' v v' ∧ HRel R' w0 H' w'
      | _, _ => False
theorem lock_spec : SpecOk Tryz.prog 61 (turnS 0 1) := fun args H v H' hl R w0 w args' h ha => by
  obtain ⟨a, e1, e2, e3, e4, e5⟩ := turnS_ok hl h ha
  subst e1; subst e4
  refine Calls.mono (MuLone.ilock_free muLib a w e2 e3) fun e w' he => ?_
  obtain ⟨rfl, rfl⟩ := he
  exact ⟨R, Ren.le_refl R, VRel.of_flat1 R rfl, e5⟩
theorem unlock_spec : SpecOk Tryz.prog 62 (turnS 1 0) := fun args H v H' hl R w0 w args' h ha => by
  obtain ⟨a, e1, e2, e3, e4, e5⟩ := turnS_ok hl h ha
  subst e1; subst e4
  refine Calls.mono (MuLone.iunlock_held muLib a w e2 e3) fun e w' he => ?_
  obtain ⟨rfl, rfl⟩ := he
  exact ⟨R, Ren.le_refl R, VRel.of_flat1 R rfl, e5⟩

theorem CT0_good (hroom : SpecOk Tryz.prog 226 roomS) : CT0.Good := by
  refine ⟨CT0_sound, mixed_row, fun f fn h => List.all_eq_true.1 fn_code _ (PT.rows_mem _ _ _ (show fnP.get f = some fn from h)), ⟨fun f s h => ?_, fun f s _ h => by cases h⟩⟩
  replace h : specT f = some s := h
  unfold specT at h
  split at h
  · rename_i hf
    have hf := beq_t hf
    subst hf
    injection h with h; subst h
    exact lock_spec
  · split at h
    · rename_i hf
      have hf := beq_t hf
      subst hf
      injection h with h; subst h
      exact unlock_spec
    · split at h
      · rename_i hf
        have hf := beq_t hf
        subst hf
        injection h with h; subst h
        exact hroom
      · cases h
end Go.Proofs.YtiedaccgagnofaaGreat
