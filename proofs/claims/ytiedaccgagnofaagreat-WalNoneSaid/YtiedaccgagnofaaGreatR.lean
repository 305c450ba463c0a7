/- Activations: temporaries, guards, deferred calls. -/
import Derived.Test.YtiedaccgagnofaaGreatQ
import Derived.OrdersIn
import Derived.RangeFuncIn
import Derived.RangeFuncLeaves
import Derived.RecoverIn
namespace Go.Proofs.YtiedaccgagnofaaGreat
open Go.RowKit

def DRels (R : Ren) (ds ds' : List Deferred) : Prop := ds.length = ds'.length ∧ ∀ (i : Nat) (d d' : Deferred), ds[i]? = some d → ds'[i]? = some d' → DRel R d d'
theorem DRels.mono {R R' : Ren} (hR : R.le R') {ds ds' : List Deferred} (h : DRels R ds ds') : DRels R' ds ds' := ⟨h.1, fun i d d' a b => (h.2 i d d' a b).mono hR⟩
theorem DRels.nil (R : Ren) : DRels R [] [] := ⟨rfl, fun i d d' h => by simp at h⟩
theorem DRels.cons {R : Ren} {d d' : Deferred} {ds ds' : List Deferred} (h : DRel R d d') (hs : DRels R ds ds') : DRels R (d :: ds) (d' :: ds') :=
  ⟨by simp [hs.1], fun i x x' a b => by
    cases i with
    | zero => simp at a b; subst a; subst b; exact h
    | succ i => exact hs.2 i x x' (by simpa using a) (by simpa using b)⟩
theorem DRels.uncons {R : Ren} {d : Deferred} {ds ds' : List Deferred} (h : DRels R (d :: ds) ds') : ∃ d' ds'', ds' = d' :: ds'' ∧ DRel R d d' ∧ DRels R ds ds'' := by
  cases ds' with
  | nil => simp [DRels] at h
  | cons d' ds'' => exact ⟨d', ds'', rfl, h.2 0 d d' rfl rfl, by simpa using h.1, fun i x x' a b => h.2 (i + 1) x x' (by simpa using a) (by simpa using b)⟩

/-- An activation, and the state that stands for it. -/
structure ARel (R : Ren) (n : Nat) (s : LS) (a : Act) : Prop where
  tmps : TRel R s.tmps a.tmps
  size : a.tmps.size = n
  defers : DRels R s.defers a.defers
  few : n ≤ lmax

section
variable {C : Ctx} {R : Ren} {n : Nat} {s : LS} {a : Act}
theorem ARel.mono {R' : Ren} (hR : R.le R') (h : ARel R n s a) : ARel R' n s a := ⟨h.tmps.mono hR, h.size, h.defers.mono hR, h.few⟩
theorem ARel.eval (h : ARel R n s a) {x : Operand} (hx : operandOk x = true) : VRel R (s.eval x) (a.eval x) := by
  cases x with
  | tmp t => exact h.tmps t
  | const v => exact VRel.of_flat1 R hx
  | global g => simp [operandOk] at hx
  | func f => exact .func _ rfl rfl rfl (fun i v v' p => by simp at p) (fun i v v' p => by simp at p)
theorem TRel.set {T : PT Value} {arr : Array Value} (h : TRel R T arr) {d : Nat} {v v' : Value} (hd : d < arr.size) (hm : d < lmax) (hv : VRel R v v') : TRel R (T.set (d + 1) d (some v)) (arr.setIfInBounds d v') := fun t => by
  rw [PT.get_set _ _ _ _ _ (pow_ok d)]
  by_cases e : t = d
  · subst e
    simp [Array.getD_eq_getD_getElem?, hd, hv]
  · rw [if_neg e]
    have := h t
    simpa [Array.getD_eq_getD_getElem?, Array.getElem?_setIfInBounds_ne (Ne.symm e)] using this
theorem ARel.put (h : ARel R n s a) {dst : Option Tmp} {v v' : Value} (hd : dstOk n dst = true) (hv : VRel R v v') : ARel R n (s.put dst v) (a.put dst v') := by
  cases dst with
  | none => exact h
  | some d =>
    have hlt : d < n := Nat.le_of_ble_eq_true hd
    exact ⟨TRel.set h.tmps (h.size ▸ hlt) (Nat.lt_of_lt_of_le hlt h.few) hv, by simpa [Act.put] using h.size, h.defers, h.few⟩
theorem undef_rel (R : Ren) : VRel R undef undef := VRel.of_flat1 R rfl
theorem not_bool_undef {b : Bool} : undef ≠ .bool b := by simp [undef]
theorem ARel.wanted (h : ARel R n s a) (ops : Array Oper) (o : Oper) : lwanted ops s o = Region.wanted o (yielded ops a.tmps) := by
  unfold lwanted Region.wanted
  cases hg : o.guard with
  | none => rfl
  | some g =>
    obtain ⟨j, want⟩ := g
    simp only [yielded]
    cases ht : (ops[j]?).bind (·.dst) with
    | none => cases want <;> rfl
    | some t =>
      simp only [Option.bind_some]
      have hr := h.tmps t
      cases hs : s.tmps.get t with
      | some v =>
        simp only [hs] at hr
        rw [Array.getD_eq_getD_getElem?] at hr
        cases hx : a.tmps[t]? with
        | some v' =>
          simp only [hx, Option.getD_some] at hr
          cases hr with
          | bool b => cases b <;> cases want <;> rfl
          | _ => cases want <;> rfl
        | none =>
          simp only [hx, Option.getD_none] at hr
          cases v with
          | bool b => cases hr
          | _ => cases want <;> rfl
      | none =>
        simp only [hs] at hr
        rw [Array.getD_eq_getD_getElem?] at hr
        cases hx : a.tmps[t]? with
        | some v' =>
          simp only [hx, Option.getD_some] at hr
          cases v' with
          | bool b => cases hr
          | _ => cases want <;> rfl
        | none => cases want <;> rfl
end
end Go.Proofs.YtiedaccgagnofaaGreat
