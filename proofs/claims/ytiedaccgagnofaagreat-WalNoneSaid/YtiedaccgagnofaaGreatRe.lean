/- Regions that draw their order: new objects whose place in the order is free. -/
import Derived.Test.YtiedaccgagnofaaGreatRd
namespace Go.Proofs.YtiedaccgagnofaaGreat
open Go.RowKit

theorem lfls_mem (mask : Option Nat) (last : Nat) : ∀ (l : List Ent) (j0 : Nat) (p : Nat × LObj), p ∈ lfls mask last j0 l ↔
    ∃ i x, l[i]? = some x ∧ p.1 = j0 + i ∧ x.kind = .float p.2 ∧ (match mask with | some m => lbit m p.1 | none => true) = true ∧ lbit last p.1 = false := by
  intro l
  induction l with
  | nil => intro j0 p; simp [lfls]
  | cons y l ih =>
    intro j0 p
    have tail : (∃ i x, l[i]? = some x ∧ p.1 = j0 + 1 + i ∧ x.kind = .float p.2 ∧ (match mask with | some m => lbit m p.1 | none => true) = true ∧ lbit last p.1 = false) →
        ∃ i x, (y :: l)[i]? = some x ∧ p.1 = j0 + i ∧ x.kind = .float p.2 ∧ (match mask with | some m => lbit m p.1 | none => true) = true ∧ lbit last p.1 = false := by
      rintro ⟨i, x, h1, h2, h3⟩
      exact ⟨i + 1, x, by simpa using h1, by omega, h3⟩
    simp only [lfls]
    split
    · rename_i o hk
      split
      · rename_i hb
        simp only [Bool.and_eq_true, Bool.not_eq_true'] at hb
        constructor
        · intro hm
          rcases List.mem_cons.1 hm with rfl | hm
          · exact ⟨0, y, rfl, rfl, hk, hb.1, hb.2⟩
          · exact tail ((ih _ _).1 hm)
        · rintro ⟨i, x, h1, h2, h3, h4, h5⟩
          cases i with
          | zero =>
            simp at h1; subst h1
            rw [hk] at h3; injection h3 with h3
            obtain ⟨a, b⟩ := p
            simp only at h2 h3; subst h3
            rw [h2]; exact List.mem_cons_self
          | succ i => exact List.mem_cons_of_mem _ ((ih _ _).2 ⟨i, x, by simpa using h1, by omega, h3, h4, h5⟩)
      · rename_i hb
        rw [ih]
        refine ⟨tail, ?_⟩
        rintro ⟨i, x, h1, h2, h3, h4, h5⟩
        cases i with
        | zero =>
          simp at h1; subst h1
          exfalso
          simp only [Nat.add_zero] at h2
          rw [h2] at h4 h5
          cases mask with
          | none => rw [h5] at hb; cases hb
          | some m => simp only at h4 hb; rw [h4, h5] at hb; cases hb
        | succ i => exact ⟨i, x, by simpa using h1, by omega, h3, h4, h5⟩
    · rename_i hk
      rw [ih]
      refine ⟨tail, ?_⟩
      rintro ⟨i, x, h1, h2, h3, h4⟩
      cases i with
      | zero =>
        simp at h1; subst h1
        exact absurd h3 (hk _)
      | succ i => exact ⟨i, x, by simpa using h1, by omega, h3, h4⟩
theorem lfls_inc (mask : Option Nat) (last : Nat) : ∀ (l : List Ent) (j0 : Nat), (lfls mask last j0 l).Pairwise (fun a b => a.1 < b.1) := by
  intro l
  induction l with
  | nil => intro j0; exact List.Pairwise.nil
  | cons y l ih =>
    intro j0
    simp only [lfls]
    split
    · split
      · refine List.Pairwise.cons (fun p hp => ?_) (ih _)
        obtain ⟨i, x, _, h2, _⟩ := (lfls_mem mask last l (j0 + 1) p).1 hp
        show j0 < p.1
        omega
      · exact ih _
    · exact ih _

section
variable {R : Ren} {F : Fr} {H : LH} {w : World}

/-- Less is to stay. -/
theorem HRel.weaken (h : HRel R F H w) {F' : Fr} (hk : ∀ k, F'.keep k → F.keep k) (hw : Kept F' w) (hh : ∀ id, F'.hole id → F.hole id) : HRel R F' H w :=
  ⟨fun id o ho => by obtain ⟨p, h1, h2, h3⟩ := h.live id o ho; exact ⟨p, h1, fun q => h2 (hk _ q), h3⟩, h.one, h.fresh, hw, fun id hid => h.holes id (hh id hid)⟩
def Fr.drop (F : Fr) (B : Nat → Prop) : Fr := ⟨F.w, fun k => F.keep k ∧ ¬ B k, fun k h => F.lt k h.1, F.hole⟩
theorem Kept.drop (h : Kept F w) (B : Nat → Prop) : Kept (F.drop B) w := ⟨h.os, h.tape, h.output, h.size, fun k hk => h.block k hk.1⟩
/-- An object that lay by is one of the objects. -/
theorem HRel.put_in (h : HRel R F H w) {r : Nat} (hr : (0 : Nat) < 1) {p : Place} (hp : R r = some p) (hk : F.keep p.block) {o : LObj} (ho : Holds R w p o) : HRel R (F.drop fun b => b = p.block) (H.put r (some o)) w := by
  refine ⟨fun j q hq => ?_, fun i j q q' s s' hi hj hsi hsj e => ?_, fun j hj => h.fresh j hj, h.below.drop _, fun id hid => h.holes id hid⟩
  · rw [LH.at_put hr] at hq
    split at hq
    · rename_i e; subst e; injection hq with hq; subst hq
      exact ⟨p, hp, fun q => q.2 rfl, ho⟩
    · obtain ⟨s, h1, h2, h3⟩ := h.live j q hq
      exact ⟨s, h1, fun q => h2 q.1, h3⟩
  · have old : ∀ (k : Nat) (u : LObj) (t : Place), k ≠ r → (H.put r (some o)).at k = some u → R k = some t → t.block ≠ p.block := fun k u t hkr hu ht e => by
      rw [LH.at_put hr, if_neg hkr] at hu
      obtain ⟨t', h1, h2, _⟩ := h.live k u hu
      rw [h1] at ht; injection ht with ht; subst ht
      exact h2 (e ▸ hk)
    by_cases ei : i = r
    · by_cases ej : j = r
      · rw [ei, ej]
      · subst ei
        rw [hp] at hsi; injection hsi with hsi; subst hsi
        exact absurd e.symm (old j _ _ ej hj hsj)
    · by_cases ej : j = r
      · subst ej
        rw [hp] at hsj; injection hsj with hsj; subst hsj
        exact absurd e (old i _ _ ei hi hsi)
      · rw [LH.at_put hr, if_neg ei] at hi
        rw [LH.at_put hr, if_neg ej] at hj
        exact h.one i j _ _ s s' hi hj hsi hsj e

/-- Many such. -/
theorem HRel.put_all {base : Nat} : ∀ (fl : List (Nat × LObj)) (F : Fr) (H : LH), fl.Pairwise (fun a b => a.1 < b.1) → HRel R F H w →
    (∀ x ∈ fl, (0 : Nat) < 1 ∧ ∃ p, R (base + x.1) = some p ∧ F.keep p.block ∧ Holds R w p x.2) →
    (∀ x ∈ fl, ∀ y ∈ fl, ∀ p q, x.1 ≠ y.1 → R (base + x.1) = some p → R (base + y.1) = some q → p.block ≠ q.block) →
    HRel R (F.drop fun b => ∃ x ∈ fl, ∃ p, R (base + x.1) = some p ∧ p.block = b) (lputs base fl H) w := by
  intro fl
  induction fl with
  | nil =>
    intro F H _ h _ _
    exact h.weaken (fun k hk => hk.1) (h.below.drop _) (fun id hid => hid)
  | cons x fl ih =>
    intro F H hs h hx hd
    obtain ⟨j, o⟩ := x
    obtain ⟨hm, p, h1, h2, h3⟩ := hx (j, o) List.mem_cons_self
    have hput := h.put_in hm h1 h2 h3
    simp only [List.pairwise_cons] at hs
    have hne : ∀ y ∈ fl, y.1 ≠ j := fun y hy => by have : j < y.1 := hs.1 y hy; omega
    have := ih _ _ hs.2 hput (fun y hy => by
      obtain ⟨k1, q, k2, k3, k4⟩ := hx y (List.mem_cons_of_mem _ hy)
      exact ⟨k1, q, k2, ⟨k3, fun e => hd y (List.mem_cons_of_mem _ hy) (j, o) List.mem_cons_self q p (hne y hy) k2 h1 e⟩, k4⟩)
      (fun y hy z hz q s hyz hq hs' => hd y (List.mem_cons_of_mem _ hy) z (List.mem_cons_of_mem _ hz) q s hyz hq hs')
    refine this.weaken (fun k hk => ⟨⟨hk.1, fun e => hk.2 ⟨(j, o), List.mem_cons_self, p, h1, e.symm⟩⟩, fun ⟨y, hy, q, k1, k2⟩ => hk.2 ⟨y, List.mem_cons_of_mem _ hy, q, k1, k2⟩⟩) (h.below.drop _) (fun id hid => hid)

/-- One block more that is to stay, one number less that is free. -/
def Fr.grow (F : Fr) (w : World) (b r : Nat) : Fr := ⟨w, fun k => k < w.heap.size ∧ (F.keep k ∨ k = b), fun _ h => h.1, fun id => F.hole id ∧ id ≠ r⟩
theorem HRel.float (h : HRel R F H w) {r : Nat} (hr : F.hole r) {x : Obj} {p : Place} (hp : p.block = w.heap.size) : HRel (R.add r p) (F.grow (w.alloc x) p.block r) H (w.alloc x) := by
  obtain ⟨hr1, hr2⟩ := h.holes r hr
  have hle := Ren.le_add p hr2
  have hdead : ∀ (id : Nat) (o : LObj), H.at id = some o → id ≠ r := fun id o ho e => by
    obtain ⟨q, h1, _⟩ := h.live id o ho
    rw [e, hr2] at h1; cases h1
  have hadd : ∀ id, id ≠ r → R.add r p id = R id := fun id e => by unfold Ren.add; rw [if_neg e]
  refine ⟨fun id o ho => ?_, fun i j o o' q q' hi hj hq hq' e => ?_, fun id hid => ?_, ⟨rfl, rfl, rfl, Nat.le_refl _, fun k hk => rfl⟩, fun id hid => ?_⟩
  · obtain ⟨q, h1, h2, h3⟩ := h.live id o ho
    refine ⟨q, hle _ _ h1, fun hk => ?_, h3.keep hle (Below.heap_alloc _ _ _ h3.lt)⟩
    rcases hk.2 with k | k
    · exact h2 k
    · have := h3.lt; omega
  · rw [hadd i (hdead i o hi)] at hq
    rw [hadd j (hdead j o' hj)] at hq'
    exact h.one i j o o' q q' hi hj hq hq' e
  · rw [hadd id (by omega)]; exact h.fresh id hid
  · rw [hadd id hid.2]; exact h.holes id hid.1

theorem lfloat_ok {C : Ctx} (hC : C.Sound) {ρ ρ' : Operand → Value} {o : Oper} {mk : Nat → Value} {obj : LObj} (h : HRel R F H w) {r : Nat} (hr : F.hole r)
    (ho : ∀ x ∈ o.op.operands, VRel R (ρ x) (ρ' x)) (hl : lfloat C ρ o.op = some (mk, obj)) :
    ∃ p x v', (execOp ρ' o).run C.P w = .ok (.value v') (w.alloc x) ∧ p.block = w.heap.size ∧ VRel (R.add r p) (mk r) v' ∧ Holds (R.add r p) (w.alloc x) p obj ∧ HRel (R.add r p) (F.grow (w.alloc x) p.block r) H (w.alloc x) := by
  have hr2 := (h.holes r hr).2
  unfold lfloat at hl
  split at hl
  · rename_i e eo
    split at hl
    · rename_i z n b hi
      injection hl with hl; injection hl with h1 h2; subst h1; subst h2
      have hz := zero_rel hC.tab (R := R) hi
      refine ⟨⟨w.heap.size, 0, z.cells.toList.length, z.cells.toList.length, 1⟩, .cells z.cells e, .pointer (some ⟨w.heap.size, 0, none⟩), ?_, rfl, ?_, ?_, h.float hr rfl⟩
      · unfold execOp
        simp [eo, Instr.alloc, run_zeroD hC.tab hi]
        rfl
      · have := VRel.ptr (Ren.add_self R r ⟨w.heap.size, 0, z.cells.toList.length, z.cells.toList.length, 1⟩) 0
        simpa using this
      · refine .cells (heap_alloc_new w _) (by simp) rfl (by simp) rfl (Nat.le_refl _) (fun j _ => by simp) fun j v hj => ?_
        obtain ⟨v', h1, h2⟩ := hz.cells.get hj
        exact ⟨v', by simpa using h1, h2.mono (Ren.le_add _ hr2)⟩
    · cases hl
  · rename_i t eo
    injection hl with hl; injection hl with h1 h2; subst h1; subst h2
    refine ⟨⟨w.heap.size, 0, 0, 0, 0⟩, .map #[] 0, .map (some w.heap.size), ?_, rfl, .map (p := ⟨w.heap.size, 0, 0, 0, 0⟩) (Ren.add_self _ _ _), ?_, h.float hr rfl⟩
    · unfold execOp
      simp only [eo]
      rfl
    · exact .obj (heap_alloc_new w _) rfl (.map rfl (fun i e e' a b => by simp at a) 0)
  · rename_i t len ps eo
    have hpr := prels_map (R := R) (ρ := ρ) (ρ' := ρ') (xs := ps) fun x hx => ho x (by rw [eo]; simpa [Op.operands] using hx)
    have ee : (ps.map fun x => (x.1, ρ' x.2)) = (ps.toList.map fun p => (p.1, ρ' p.2)).toArray := by
      apply Array.toList_inj.1; simp
    split at hl
    · rename_i e hd
      split at hl
      · rename_i z n b hi
        split at hl
        · rename_i hb
          simp only [Bool.and_eq_true] at hb
          obtain ⟨hb1, hb2⟩ := hb
          have hb1 := Nat.le_of_ble_eq_true hb1
          have hb2 : 0 < len * n := Nat.le_of_ble_eq_true hb2
          split at hl
          · rename_i cs hf
            injection hl with hl; injection hl with h1 h2; subst h1; subst h2
            obtain ⟨ie, g1, g2, g3, _, g5, hz⟩ := hC.tab.info _ _ _ _ hi
            have hflat : ((Array.range (len * n)).map (z.cells[· % z.cells.size]!)).toList.all flat = true := by
              rcases flats_range hz (len * n) with h | h
              · exact h
              · rw [g5] at h; subst h; simp at hb2
            obtain ⟨cs', h3, h4⟩ := fill_rel _ _ _ _ _ _ hpr (VRels.flats hflat) hf
            have hlen := h4.1
            have hrun := run_buildSlice (P := C.P) w t e len _ cs' ie z (hC.tab.desc _ _ hd) g1 g2 (by rw [g3]; omega) (by rw [g3]; omega) (by rw [g3]; simpa using h3)
            refine ⟨⟨w.heap.size, 0, cs.toList.length, cs.toList.length, n⟩, .cells cs' e, .slice (some ⟨w.heap.size, 0, none⟩) len len, ?_, rfl, ?_, ?_, h.float hr rfl⟩
            · unfold execOp
              simp only [eo, ee, Sem.run_bind, hrun, Result.andThen_ok]
              rfl
            · have := VRel.slice (Ren.add_self R r ⟨w.heap.size, 0, cs.toList.length, cs.toList.length, n⟩) 0 len len len (Nat.le_refl _) (.inl rfl)
              simpa using this
            · refine .cells (heap_alloc_new w _) (by simpa using hlen.symm) rfl (by simp) rfl (Nat.le_refl _) (fun j _ => by simp) fun j v hj => ?_
              obtain ⟨v', h1, h2⟩ := h4.get hj
              exact ⟨v', by simpa using h1, h2.mono (Ren.le_add _ hr2)⟩
          · cases hl
        · cases hl
      · cases hl
    · cases hl
  · cases hl
end
end Go.Proofs.YtiedaccgagnofaaGreat
