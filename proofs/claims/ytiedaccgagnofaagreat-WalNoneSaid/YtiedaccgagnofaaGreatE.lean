/- Single operations of the second run: literals, slices, append, copy. -/
import Derived.Test.YtiedaccgagnofaaGreatD
import Derived.Laws.Tables
import Derived.Great.BuildSlice
import Derived.Laws.AppendOwn
namespace Go.Proofs.YtiedaccgagnofaaGreat
open Go.RowKit

section
variable {P : Program} {C : Tab} {R : Ren} {w0 : Fr} {w : World} {H : LH}

/-! ### literals -/
def PRels (R : Ren) (xs ys : List (Nat × Value)) : Prop := xs.length = ys.length ∧ ∀ (i : Nat) (x y : Nat × Value), xs[i]? = some x → ys[i]? = some y → x.1 = y.1 ∧ VRel R x.2 y.2
theorem PRels.uncons {x : Nat × Value} {xs ys : List (Nat × Value)} (h : PRels R (x :: xs) ys) : ∃ y ys', ys = y :: ys' ∧ x.1 = y.1 ∧ VRel R x.2 y.2 ∧ PRels R xs ys' := by
  cases ys with
  | nil => simp [PRels] at h
  | cons y ys' =>
    have := h.2 0 x y rfl rfl
    exact ⟨y, ys', rfl, this.1, this.2, by simpa [PRels] using h.1, fun i v v' a b => h.2 (i + 1) v v' (by simpa using a) (by simpa using b)⟩

theorem put_rel (off : Nat) : ∀ (l l' : List Value) (k : Nat) (cs cs' : Array Value), VRels R l l' → VRels R cs.toList cs'.toList →
    VRels R ((l.zipIdx k).foldl (fun cs (c, j) => cs.setIfInBounds (off + j) c) cs).toList ((l'.zipIdx k).foldl (fun cs (c, j) => cs.setIfInBounds (off + j) c) cs').toList
  | [], l', k, cs, cs', h, hc => by
    have : l' = [] := List.eq_nil_of_length_eq_zero h.1.symm
    subst this; exact hc
  | x :: l, l', k, cs, cs', h, hc => by
    obtain ⟨y, ys, rfl, h1, h2⟩ := h.uncons
    simp only [List.zipIdx_cons, List.foldl_cons]
    refine put_rel off l ys (k + 1) _ _ h2 ?_
    simpa [Array.toList_setIfInBounds] using hc.set (off + k) h1

theorem fill_rel (place : Nat → Option (Nat × Nat)) : ∀ (xs ys : List (Nat × Value)) (cs cs' out : Array Value), PRels R xs ys → VRels R cs.toList cs'.toList → Instr.fill place cs xs = some out →
    ∃ out', Instr.fill place cs' ys = some out' ∧ VRels R out.toList out'.toList
  | [], ys, cs, cs', out, h, hc, ho => by
    have : ys = [] := List.eq_nil_of_length_eq_zero h.1.symm
    subst this
    simp only [Instr.fill, Option.some.injEq] at ho
    subst ho
    exact ⟨cs', rfl, hc⟩
  | (i, v) :: xs, ys, cs, cs', out, h, hc, ho => by
    obtain ⟨⟨j, v'⟩, ys', rfl, h1, h2, h3⟩ := h.uncons
    simp only at h1 h2
    subst h1
    simp only [Instr.fill] at ho ⊢
    split at ho
    · cases ho
    · rename_i off size hp
      have hvs : v.cells.size = v'.cells.size := by simpa using h2.cells.1
      have hcs : cs.size = cs'.size := by simpa using hc.1
      split at ho
      · cases ho
      · rename_i hb
        rw [← hvs, ← hcs, if_neg hb]
        refine fill_rel place xs ys' _ _ out h3 ?_ ho
        have := put_rel (R := R) off v.cells.toList v'.cells.toList 0 cs cs' h2.cells hc
        have e1 : ∀ (a cs : Array Value), a.zipIdx.foldl (fun cs (c, j) => cs.setIfInBounds (off + j) c) cs = a.toList.zipIdx.foldl (fun cs (c, j) => cs.setIfInBounds (off + j) c) cs := fun a cs => by rw [← Array.foldl_toList, Array.toList_zipIdx]
        rw [e1, e1]
        exact this

noncomputable def lplaces (C : Tab) : List Field → Option (List (Nat × Nat))
  | [] => some []
  | f :: fs => match C.info f.type, lplaces C fs with
    | some (_, n, _), some l => some ((f.offset, n) :: l)
    | _, _ => none
theorem lplaces_ok (hC : C.Ok P) : ∀ (fs : List Field) (l : List (Nat × Nat)), lplaces C fs = some l → fs.mapM (fun f => (P.info? f.type).map fun i => (f.offset, i.size)) = some l
  | [], l, h => by simp [lplaces] at h; subst h; rfl
  | f :: fs, l, h => by
    simp only [lplaces] at h
    split at h
    · rename_i z n b l' hi hl
      injection h with h; subst h
      obtain ⟨i, h1, _, h3, _⟩ := hC.info _ _ _ _ hi
      simp [List.mapM_cons, h1, h3, lplaces_ok hC fs l' hl]
    · cases h

noncomputable def lbuild (C : Tab) (t : TypeId) (parts : List (Nat × Value)) : Option Value :=
  match C.info t, C.desc t with
  | some (z, _, _), some (.array _ e) => match C.info e with
    | some (_, n, _) => match Instr.fill (fun i => some (i * n, n)) z.cells parts with
      | some cs => some (.agg cs)
      | none => none
    | none => none
  | some (z, _, _), some (.struct fs) => match lplaces C fs.toList with
    | some l => match Instr.fill (l[·]?) z.cells parts with
      | some cs => some (.agg cs)
      | none => none
    | none => none
  | _, _ => none
theorem lbuild_ok (hC : C.Ok P) {t : TypeId} {parts parts' : List (Nat × Value)} {r : Value} (hp : PRels R parts parts') (hl : lbuild C t parts = some r) : ∃ r', (Instr.build t parts'.toArray).run P w = .ok r' w ∧ VRel R r r' := by
  have fin : ∀ (cs cs' : Array Value), VRels R cs.toList cs'.toList → P.built t parts' = some cs' → r = .agg cs → ∃ r', (Instr.build t parts'.toArray).run P w = .ok r' w ∧ VRel R r r' := fun cs cs' h1 h2 h3 => by
    subst h3
    exact ⟨.agg cs', run_build w t _ _ (by simpa using h2), .agg (by simpa using h1.1) fun i v v' a b => h1.2 i v v' (by simpa using a) (by simpa using b)⟩
  unfold lbuild at hl
  split at hl
  · rename_i z n b k e hi hd
    split at hl
    · rename_i ze ne be hie
      split at hl
      · rename_i cs hf
        injection hl with hl
        obtain ⟨it, h1, h2, _, _, _, hz⟩ := hC.info _ _ _ _ hi
        obtain ⟨ie, g1, _, g3, _⟩ := hC.info _ _ _ _ hie
        obtain ⟨cs', h3, h4⟩ := fill_rel _ _ _ _ z.cells _ hp (VRels.flats hz) hf
        exact fin cs cs' h4 (by unfold Program.built; simp only [h1, hC.desc _ _ hd, h2, g1, g3]; exact h3) hl.symm
      · cases hl
    · cases hl
  · rename_i z n b fs hi hd
    split at hl
    · rename_i l hpl
      split at hl
      · rename_i cs hf
        injection hl with hl
        obtain ⟨it, h1, h2, _, _, _, hz⟩ := hC.info _ _ _ _ hi
        obtain ⟨cs', h3, h4⟩ := fill_rel _ _ _ _ z.cells _ hp (VRels.flats hz) hf
        exact fin cs cs' h4 (by unfold Program.built; simp only [h1, hC.desc _ _ hd, h2, lplaces_ok hC _ _ hpl]; simpa using h3) hl.symm
      · cases hl
    · cases hl
  · cases hl

noncomputable def lbuildSlice (C : Tab) (H : LH) (t : TypeId) (len : Nat) (parts : List (Nat × Value)) : Option (Value × LH) :=
  match C.desc t with
  | some (.slice e) => match C.info e with
    | some (z, n, _) => match Nat.ble (len * n) 65536 && Nat.blt 0 (len * n) && Nat.blt 0 1 with
      | true => match Instr.fill (fun i => some (i * n, n)) ((Array.range (len * n)).map (z.cells[· % z.cells.size]!)) parts with
        | some cs => some (.slice (some ⟨H.next, 0, none⟩) len len, H.new (.cells cs.toList e n))
        | none => none
      | false => none
    | none => none
  | _ => none
theorem flats_range {z : Array Value} (hz : z.toList.all flat = true) (n : Nat) : ((Array.range n).map (z[· % z.size]!)).toList.all (fun v => flat v) = true ∨ z.size = 0 := by
  rcases Nat.eq_zero_or_pos z.size with h | h
  · exact .inr h
  · refine .inl (List.all_eq_true.2 fun v hv => ?_)
    simp at hv
    obtain ⟨i, _, rfl⟩ := hv
    have hlt : i % z.size < z.size := Nat.mod_lt _ h
    rw [getElem!_pos z _ hlt]
    exact List.all_eq_true.1 hz _ (by simp)
theorem lbuildSlice_ok (hC : C.Ok P) {t : TypeId} {len : Nat} {parts parts' : List (Nat × Value)} {r : Value} {H' : LH} (h : HRel R w0 H w) (hp : PRels R parts parts') (hl : lbuildSlice C H t len parts = some (r, H')) :
    ∃ R' r' w', (Instr.buildSlice t len parts'.toArray).run P w = .ok r' w' ∧ R.le R' ∧ VRel R' r r' ∧ HRel R' w0 H' w' := by
  unfold lbuildSlice at hl
  split at hl
  · rename_i e hd
    split at hl
    · rename_i z n b hi
      split at hl
      · rename_i hb
        simp only [Bool.and_eq_true] at hb
        obtain ⟨⟨hb1, hb2⟩, hb3⟩ := hb
        have hb1 := Nat.le_of_ble_eq_true hb1
        have hb2 : 0 < len * n := Nat.le_of_ble_eq_true hb2
        have hb3 : (0 : Nat) < 1 := Nat.le_of_ble_eq_true hb3
        split at hl
        · rename_i cs hf
          injection hl with hl; injection hl with h1 h2; subst h1; subst h2
          obtain ⟨ie, g1, g2, g3, _, g5, hz⟩ := hC.info _ _ _ _ hi
          have hflat : ((Array.range (len * n)).map (z.cells[· % z.cells.size]!)).toList.all flat = true := by
            rcases flats_range hz (len * n) with h | h
            · exact h
            · rw [g5] at h; subst h; simp at hb2
          obtain ⟨cs', h3, h4⟩ := fill_rel _ _ _ _ _ _ hp (VRels.flats hflat) hf
          refine ⟨_, _, _, run_buildSlice w t e len _ cs' ie z (hC.desc _ _ hd) g1 g2 (by rw [g3]; omega) (by rw [g3]; omega) (by rw [g3]; simpa using h3), Ren.le_add _ (h.fresh _ (Nat.le_refl _)), ?_, h.row hb3 e n h4⟩
          have := VRel.slice (Ren.add_self R H.next ⟨w.heap.size, 0, cs.toList.length, cs.toList.length, n⟩) 0 len len len (Nat.le_refl _) (.inl rfl)
          simpa using this
        · cases hl
      · cases hl
    · cases hl
  · cases hl

/-! ### slicing -/
noncomputable def lbound (x : Option Value) (dflt most : Nat) : Option Nat :=
  match x with
  | none => some dflt
  | some (.int _ i) => match decide (0 ≤ i) && decide (i ≤ (most : Int)) with
    | true => some i.toNat
    | false => none
  | some _ => none
theorem lbound_run {x : Value} {d most r : Nat} {code : BoundsCode} (h : lbound (some x) d most = some r) (w : World) : (Instr.sliceBound x most code).run P w = .ok r w ∧ r ≤ most := by
  unfold lbound at h
  split at h
  · rename_i e; cases e
  · rename_i k i e
    injection e with e; subst e
    split at h
    · rename_i hb
      simp only [Bool.and_eq_true, decide_eq_true_eq] at hb
      injection h with h; subst h
      refine ⟨by simp [Instr.sliceBound, asIntOf, hb], by omega⟩
    · cases h
  · cases h

/-- Bounds that were given fit the greater capacity, too. -/
theorem lbound_more {x : Value} {d d' most most' r : Nat} (h : lbound (some x) d most = some r) (hm : most ≤ most') : lbound (some x) d' most' = some r := by
  unfold lbound at h ⊢
  cases x with
  | int k i =>
    simp only at h ⊢
    split at h
    · rename_i hb
      rw [← h]
      simp only [Bool.and_eq_true, decide_eq_true_eq] at hb
      have : (decide (0 ≤ i) && decide (i ≤ (most' : Int))) = true := by simp only [Bool.and_eq_true, decide_eq_true_eq]; exact ⟨hb.1, by omega⟩
      simp only [this]
    · cases h
  | _ => cases h

theorem bounds_run {n cap cap' m h l : Nat} {lo hi mx : Option Value} (hm : lbound mx cap cap = some m) (hh : lbound hi n m = some h) (hl : lbound lo 0 h = some l) (hx : mx.isSome = true → hi.isSome = true) (hc : cap ≤ cap') (hhm : h ≤ m) (w : World) :
    (Instr.sliceBounds true n cap' lo hi mx).run P w = .ok (l, h, mx.elim cap' fun _ => m) w := by
  unfold Instr.sliceBounds
  cases mx with
  | none =>
    simp only [lbound, Option.some.injEq] at hm
    subst hm
    cases hi with
    | none =>
      simp only [lbound, Option.some.injEq] at hh
      subst hh
      cases lo with
      | none => simp only [lbound, Option.some.injEq] at hl; subst hl; simp
      | some lo => simp [(lbound_run (P := P) (code := .sliceB) hl w).1]
    | some hi =>
      have g := (lbound_run (P := P) (code := .sliceAcap) (lbound_more (d' := 0) hh hc) w).1
      cases lo with
      | none => simp only [lbound, Option.some.injEq] at hl; subst hl; simp [g]
      | some lo => simp [g, (lbound_run (P := P) (code := .sliceB) hl w).1]
  | some mx =>
    have g0 := (lbound_run (P := P) (code := .slice3Acap) (lbound_more (d' := 0) hm hc) w).1
    cases hi with
    | none => simp at hx
    | some hi =>
      have g := (lbound_run (P := P) (code := .slice3B) hh w).1
      cases lo with
      | none => simp only [lbound, Option.some.injEq] at hl; subst hl; simp [g0, g]
      | some lo => simp [g0, g, (lbound_run (P := P) (code := .slice3C) hl w).1]

noncomputable def lslice (C : Tab) (H : LH) (t : TypeId) (x : Value) (lo hi mx : Option Value) : Option Value :=
  match x, C.desc t with
  | .slice (some ⟨id, off, none⟩) n cap, some (.slice e) =>
    match C.info e, H.at id, lbound mx cap cap, !mx.isSome || hi.isSome with
    | some (_, s, _), some (.cells _ _ s'), some m, true => match Nat.beq s s', lbound hi n m with
      | true, some h => match lbound lo 0 h, Nat.ble h m with
        | some l, true => match Nat.beq m l with
          | true => some (.slice (some ⟨id, off, none⟩) 0 0)
          | false => some (.slice (some ⟨id, off + l * s, none⟩) (h - l) (m - l))
        | _, _ => none
      | _, _ => none
    | _, _, _, _ => none
  | .slice none 0 0, some (.slice e) =>
    match C.info e, lbound mx 0 0, lbound hi 0 0, lbound lo 0 0, !mx.isSome || hi.isSome with
    | some _, some 0, some 0, some 0, true => some (.slice none 0 0)
    | _, _, _, _, _ => none
  | _, _ => none

theorem bound_le {lo : Option Value} {h l : Nat} (hl : lbound lo 0 h = some l) : l ≤ h := by
  cases lo with
  | none => simp [lbound] at hl; omega
  | some x => exact (lbound_run (P := default) (code := .sliceB) hl default).2

theorem lslice_ok (hC : C.Ok P) {t : TypeId} {x x' r : Value} {lo hi mx : Option Value} (hH : HRel R w0 H w) (hx : VRel R x x') (hl : lslice C H t x lo hi mx = some r) :
    ∃ r', (Instr.slice t x' lo hi mx).run P w = .ok r' w ∧ VRel R r r' := by
  unfold lslice at hl
  split at hl
  · rename_i id off n cap e hd
    split at hl
    · rename_i z s b c ce s' m hi' hat hm hmx
      split at hl
      · rename_i h hs hh
        have hs := beq_t hs
        subst hs
        split at hl
        · rename_i l hlo hle
          have hle := Nat.le_of_ble_eq_true hle
          have hlh := bound_le hlo
          have hmx' : mx.isSome = true → hi.isSome = true := fun q => by simp [q] at hmx; exact hmx
          have hmc : m ≤ cap := by
            cases mx with
            | none => simp [lbound] at hm; omega
            | some y => exact (lbound_run (P := default) (code := .sliceB) hm default).2
          cases hx with
          | @slice _ p hp _ _ _ cap' hn hc =>
            obtain ⟨_, _, hes⟩ := hH.len hp hat
            have hcc : cap ≤ cap' := by rcases hc with h | h <;> omega
            have hb := bounds_run (P := P) hm hh hlo hmx' hcc hle w
            have hrun : ∀ m', (mx.elim cap' fun _ => m) = m' → (Instr.slice t (.slice (some ⟨p.block, p.base + off, none⟩) n cap') lo hi mx).run P w =
                .ok (.slice (some (if m' = l then ⟨p.block, p.base + off, none⟩ else ⟨p.block, p.base + off + l * s, none⟩)) (h - l) (m' - l)) w := fun m' hm' => by
              rw [hm'] at hb
              simp only [Instr.slice, Sem.run_bind, run_underlying (hC.desc _ _ hd), Result.andThen_ok, hb, run_sizeD hC hi']
              by_cases e : m' = l
              · simp [e]
              · simp [e, add_off]
            generalize hm' : (mx.elim cap' fun _ => m) = m' at hrun
            have hrun := hrun m' rfl
            have hmm : m ≤ m' := by cases mx <;> simp_all [lbound]
            have key : m' = m ∨ (m = cap ∧ m' = cap') := by
              cases mx with
              | none => simp [lbound] at hm; exact .inr ⟨hm.symm, by simpa using hm'.symm⟩
              | some y => exact .inl (by simpa using hm'.symm)
            split at hl
            · rename_i hml
              have hml := beq_t hml
              injection hl with hl; subst hl
              have h0 : h - l = 0 := by omega
              by_cases e : m' = l
              · refine ⟨_, hrun, ?_⟩
                rw [if_pos e, h0, show m' - l = 0 by omega]
                exact .empty hp off (p.base + off) 0 (.inl rfl)
              · refine ⟨_, hrun, ?_⟩
                rw [if_neg e, h0]
                refine .empty hp off (p.base + off + l * s) (m' - l) (.inr ?_)
                rcases key with k | ⟨k1, k2⟩
                · omega
                · rcases hc with hc | ⟨_, _, hc⟩
                  · omega
                  · rw [hes] at hc ⊢
                    have : (m' - l) * s + l * s = m' * s := by rw [← Nat.add_mul]; congr 1; omega
                    rw [k2] at this ⊢
                    omega
            · rename_i hml
              have hml := beq_f hml
              injection hl with hl; subst hl
              refine ⟨_, hrun, ?_⟩
              rw [if_neg (by omega), Nat.add_assoc]
              refine .slice hp (off + l * s) (h - l) (m - l) (m' - l) (by omega) ?_
              rcases key with k | ⟨k1, k2⟩
              · exact .inl (by omega)
              · rcases hc with hc | ⟨hc1, hc2, hc3⟩
                · exact .inl (by omega)
                · right
                  rw [hes] at hc1 hc3 ⊢
                  have e1 : (m - l) * s + l * s = m * s := by rw [← Nat.add_mul]; congr 1; omega
                  have e2 : (m' - l) * s + l * s = m' * s := by rw [← Nat.add_mul]; congr 1; omega
                  rw [k1] at e1 ⊢
                  rw [k2] at e2 ⊢
                  refine ⟨by omega, by omega, by omega⟩
          | @empty _ p hp _ off' cap' hc =>
            have hm0 : m = 0 := by omega
            subst hm0
            have hh0 : h = 0 := by omega
            subst hh0
            have hl0 : l = 0 := by omega
            subst hl0
            have hb := bounds_run (P := P) (cap' := cap') hm hh hlo hmx' (Nat.zero_le _) hle w
            simp only at hl
            injection hl with hl; subst hl
            cases mx with
            | none =>
              refine ⟨.slice (some ⟨p.block, off', none⟩) 0 cap', ?_, .empty hp off off' cap' hc⟩
              simp only [Instr.slice, Sem.run_bind, run_underlying (hC.desc _ _ hd), Result.andThen_ok, hb, run_sizeD hC hi']
              by_cases e : cap' = 0
              · simp [e]
              · simp [e, add_off]
            | some y =>
              refine ⟨.slice (some ⟨p.block, off', none⟩) 0 0, ?_, .empty hp off off' 0 (.inl rfl)⟩
              simp only [Instr.slice, Sem.run_bind, run_underlying (hC.desc _ _ hd), Result.andThen_ok, hb, run_sizeD hC hi']
              simp
        · cases hl
      · cases hl
    · cases hl
  · rename_i e hd
    split at hl
    · rename_i x hi' hm hh hlo hmx
      injection hl with hl; subst hl
      cases hx
      have hmx' : mx.isSome = true → hi.isSome = true := fun q => by simp [q] at hmx; exact hmx
      have hb := bounds_run (P := P) (cap' := 0) hm hh hlo hmx' (Nat.le_refl _) (Nat.le_refl _) w
      refine ⟨_, ?_, .nilSlice⟩
      obtain ⟨z, s, b⟩ := x
      cases mx <;> simp [Instr.slice, run_underlying (hC.desc _ _ hd), hb, run_sizeD hC hi']
    · cases hl
  · cases hl
end
end Go.Proofs.YtiedaccgagnofaaGreat
