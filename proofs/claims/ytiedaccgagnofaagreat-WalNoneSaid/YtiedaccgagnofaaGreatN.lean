/- Each operation of the second run, whole. -/
import Derived.Test.YtiedaccgagnofaaGreatM
namespace Go.Proofs.YtiedaccgagnofaaGreat
open Go.RowKit

theorem flats_drop {R : Ren} {v v' : Value} (h : VRel R v v') {β : Type} {x : Option β} {r : β} (hx : ifFlat v x = some r) : v' = v ∧ x = some r := by
  unfold ifFlat at hx
  split at hx
  · rename_i hf; exact ⟨h.flat_eq hf, hx⟩
  · cases hx

section
variable {C : Ctx} (hC : C.Sound) {R : Ren} {w0 : Fr} {w : World} {H H' : LH} {ρ ρ' : Operand → Value}

theorem flats_drop? {v : Option Operand} (h : ∀ x, v = some x → VRel R (ρ x) (ρ' x)) {β : Type} {x : Option β} {r : β} (hx : ifFlat? (v.map ρ) x = some r) : v.map ρ' = v.map ρ ∧ x = some r := by
  cases v with
  | none => exact ⟨rfl, hx⟩
  | some o =>
    obtain ⟨h1, h2⟩ := flats_drop (h o rfl) (by simpa [ifFlat?] using hx)
    exact ⟨by simp [h1], h2⟩

/-- What an operation comes to, and what the second run says. -/
def Runs (C : Ctx) (R : Ren) (w0 : Fr) (H' : LH) (s : Sem Next) (w : World) (x : LNext) : Prop := ∃ R' w' y, s.run C.P w = .ok y w' ∧ R.le R' ∧ HRel R' w0 H' w' ∧ NRel R' w' x y

theorem runs_v (h : HRel R w0 H w) {o : Option Value} {x : LNext} (hl : okv H o = some (x, H')) {s : Sem Value} (hs : ∀ r, o = some r → ∃ r', s.run C.P w = .ok r' w ∧ VRel R r r') :
    Runs C R w0 H' (do pure (.value (← s))) w x := by
  unfold okv at hl
  split at hl
  · rename_i r
    injection hl with hl; injection hl with h1 h2; subst h1; subst h2
    obtain ⟨r', g1, g2⟩ := hs r rfl
    exact ⟨R, w, .value r', by simp [g1], Ren.le_refl R, h, .value g2⟩
  · cases hl
theorem runs_vh {o : Option (Value × LH)} {x : LNext} (hl : okvh o = some (x, H')) {s : Sem Value} (hs : ∀ r H1, o = some (r, H1) → ∃ R' r' w', s.run C.P w = .ok r' w' ∧ R.le R' ∧ VRel R' r r' ∧ HRel R' w0 H1 w') :
    Runs C R w0 H' (do pure (.value (← s))) w x := by
  unfold okvh at hl
  split at hl
  · rename_i r
    injection hl with hl; injection hl with h1 h2; subst h1; subst h2
    obtain ⟨R', r', w', g1, g2, g3, g4⟩ := hs r.1 r.2 rfl
    exact ⟨R', w', .value r', by simp [g1], g2, g4, .value g3⟩
  · cases hl
theorem runs_u {o : Option LH} {x : LNext} (hl : oku o = some (x, H')) {s : Sem Unit} (hs : ∀ H1, o = some H1 → ∃ w', s.run C.P w = .ok () w' ∧ HRel R w0 H1 w') :
    Runs C R w0 H' (do s; pure .skip) w x := by
  unfold oku at hl
  split at hl
  · rename_i r
    injection hl with hl; injection hl with h1 h2; subst h1; subst h2
    obtain ⟨w', g1, g2⟩ := hs r rfl
    exact ⟨R, w', .skip, by simp [g1], Ren.le_refl R, g2, .skip⟩
  · cases hl
theorem runs_pure (h : HRel R w0 H w) {x : LNext} {y : Next} (hy : NRel R w x y) : Runs C R w0 H (pure y) w x := ⟨R, w, y, rfl, Ren.le_refl R, h, hy⟩
theorem runs_of {s s' : Sem Next} {x : LNext} (e : s.run C.P w = s'.run C.P w) (h : Runs C R w0 H' s' w x) : Runs C R w0 H' s w x := by
  obtain ⟨R', w', y, g1, g2⟩ := h
  exact ⟨R', w', y, e.trans g1, g2⟩

theorem vrels_map {xs : Array Operand} (h : ∀ x ∈ xs, VRel R (ρ x) (ρ' x)) : VRels R (xs.map ρ).toList (xs.map ρ').toList := by
  refine ⟨by simp, fun i v v' a b => ?_⟩
  simp only [Array.toList_map, List.getElem?_map, Array.getElem?_toList] at a b
  cases hx : xs[i]? with
  | none => rw [hx] at a; cases a
  | some x =>
    rw [hx] at a b
    injection a with a; injection b with b
    subst a; subst b
    exact h x (Array.mem_of_getElem? hx)
theorem prels_map {xs : Array (Nat × Operand)} (h : ∀ x ∈ (xs.toList.map (·.2)), VRel R (ρ x) (ρ' x)) : PRels R (xs.toList.map fun p => (p.1, ρ p.2)) (xs.toList.map fun p => (p.1, ρ' p.2)) := by
  refine ⟨by simp, fun i v v' a b => ?_⟩
  simp only [List.getElem?_map] at a b
  cases hx : xs.toList[i]? with
  | none => rw [hx] at a; cases a
  | some x =>
    rw [hx] at a b
    injection a with a; injection b with b
    subst a; subst b
    exact ⟨rfl, h x.2 (List.mem_map.2 ⟨x, List.mem_of_getElem? hx, rfl⟩)⟩

theorem lflat_ok {o : Oper} {x : LNext} (h : HRel R w0 H w) (hs : ∀ cs b, o.op ≠ .select cs b) (ho : ∀ x ∈ o.op.operands, VRel R (ρ x) (ρ' x)) (hl : lflat C.P ρ o H = some (x, H')) : Runs C R w0 H' (execOp ρ' o) w x := by
  unfold lflat at hl
  split at hl
  · rename_i hf
    have he : execOp ρ' o = execOp ρ o := execOp_congr o hs fun x hx => (ho x hx).flat1_eq (List.all_eq_true.1 hf x (by simpa using hx))
    rw [he]
    split at hl
    · rename_i v hv
      split at hl
      · rename_i hv1
        injection hl with hl; injection hl with h1 h2; subst h1; subst h2
        exact ⟨R, w, _, prun_run _ _ hv w, Ren.le_refl R, h, .value (VRel.of_flat1 R hv1)⟩
      · cases hl
    · cases hl
  · cases hl

theorem lints_ints {op : BinOp} {x y r : Value} (h : lints op x y = some r) : flat x = true ∧ flat y = true ∧ ∃ k a k' b, x = .int k a ∧ y = .int k' b := by
  unfold lints at h
  split at h
  · exact ⟨rfl, rfl, _, _, _, _, rfl, rfl⟩
  · cases h

theorem eqGuard_int {op : BinOp} {t : TypeId} {x y : Operand} {k k' : IntKind} {a b : Int} : (eqGuard op t x y (.int k a) (.int k' b)).run C.P w = .ok () w := by
  unfold eqGuard
  split <;> rfl
theorem eqGuard_leq {op : BinOp} {t : TypeId} {x y : Operand} {u v u' v' : Value} {b : Bool} (hx : VRel R u u') (hy : VRel R v v') (h : leq C.toTab t u v = some b) : (eqGuard op t x y u' v').run C.P w = .ok () w := by
  unfold leq at h
  split at h <;> first | (cases h; done) | (cases hx <;> cases hy <;> cases op <;> rfl)
end
end Go.Proofs.YtiedaccgagnofaaGreat
