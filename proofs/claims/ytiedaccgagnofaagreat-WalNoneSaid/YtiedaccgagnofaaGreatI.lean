/- What the program's own operations come to beside those of the second run: values. -/
import Derived.Test.YtiedaccgagnofaaGreatH
import Derived.IntWalk
namespace Go.Proofs.YtiedaccgagnofaaGreat
open Go.RowKit

section
variable {P : Program} {C : Tab} {R : Ren} {w0 : Fr} {w : World} {H : LH}

theorem VRel.flat1_eq {v v' : Value} (h : VRel R v v') (hf : flat1 v = true) : v' = v := by
  cases h with
  | agg h1 ha =>
    rename_i a a'
    simp only [flat1] at hf
    congr 1
    refine Array.ext h1.symm fun i hi hi' => ?_
    have e1 : a[i]? = some (a[i]'hi') := Array.getElem?_eq_getElem _
    have e2 : a'[i]? = some (a'[i]'hi) := Array.getElem?_eq_getElem _
    exact (ha i _ _ e1 e2).flat_eq (List.all_eq_true.1 hf _ (by simp))
  | tuple h1 ha =>
    rename_i a a'
    simp only [flat1] at hf
    congr 1
    refine Array.ext h1.symm fun i hi hi' => ?_
    have e1 : a[i]? = some (a[i]'hi') := Array.getElem?_eq_getElem _
    have e2 : a'[i]? = some (a'[i]'hi) := Array.getElem?_eq_getElem _
    exact (ha i _ _ e1 e2).flat_eq (List.all_eq_true.1 hf _ (by simp))
  | iface t hv => simp only [flat1] at hf; rw [hv.flat_eq hf]
  | _ => first | rfl | (simp [flat1, flat] at hf)
theorem VRel.of_flat1 (R : Ren) {v : Value} (hf : flat1 v = true) : VRel R v v := by
  cases v with
  | agg a =>
    simp only [flat1] at hf
    refine .agg rfl fun i v v' x y => ?_
    rw [x] at y; injection y with y; subst y
    exact VRel.of_flat R (List.all_eq_true.1 hf _ (by simpa using Array.mem_of_getElem? x))
  | tuple a =>
    simp only [flat1] at hf
    refine .tuple rfl fun i v v' x y => ?_
    rw [x] at y; injection y with y; subst y
    exact VRel.of_flat R (List.all_eq_true.1 hf _ (by simpa using Array.mem_of_getElem? x))
  | iface t v => simp only [flat1] at hf; exact .iface t (VRel.of_flat R hf)
  | _ => exact VRel.of_flat R (by simpa [flat1] using hf)

theorem prun_run {α : Type} : ∀ (s : Sem α) (a : α), prun P s = some a → ∀ w, s.run P w = .ok a w
  | .pure x, a, h, w => by simp [prun] at h; subst h; rfl
  | .program k, a, h, w => by simp only [prun] at h; simp only [Sem.run]; exact prun_run (k P) a h w
  | .mark _ k, a, h, w => by simp only [prun] at h; simp only [Sem.run]; exact prun_run k a h w
  | .choose q k, a, h, w => by
    simp only [prun] at h
    split at h
    · rename_i hq; simp only [Sem.run, hq, if_true]; exact prun_run (k 0) a h w
    · cases h
  | .load .., a, h, w => by simp [prun] at h
  | .store .., a, h, w => by simp [prun] at h
  | .new .., a, h, w => by simp [prun] at h
  | .shape .., a, h, w => by simp [prun] at h
  | .freeze .., a, h, w => by simp [prun] at h
  | .frozen .., a, h, w => by simp [prun] at h
  | .getObj .., a, h, w => by simp [prun] at h
  | .setObj .., a, h, w => by simp [prun] at h
  | .sys .., a, h, w => by simp [prun] at h
  | .halt .., a, h, w => by simp [prun] at h

theorem tuple2 {a b a' b' : Value} (h1 : VRel R a a') (h2 : VRel R b b') : VRel R (.tuple #[a, b]) (.tuple #[a', b']) :=
  .tuple rfl fun i v v' x y => by
    match i with
    | 0 => simp at x y; subst x; subst y; exact h1
    | 1 => simp at x y; subst x; subst y; exact h2
    | n + 2 => simp at x
theorem tuple3 {a b c a' b' c' : Value} (h1 : VRel R a a') (h2 : VRel R b b') (h3 : VRel R c c') : VRel R (.tuple #[a, b, c]) (.tuple #[a', b', c']) :=
  .tuple rfl fun i v v' x y => by
    match i with
    | 0 => simp at x y; subst x; subst y; exact h1
    | 1 => simp at x y; subst x; subst y; exact h2
    | 2 => simp at x y; subst x; subst y; exact h3
    | n + 3 => simp at x

theorem lindexAgg_ok (hC : C.Ok P) {t : TypeId} {x x' i r : Value} (hx : VRel R x x') (hl : lindexAgg C t x i = some r) : ∃ r', (Instr.index t x' i).run P w = .ok r' w ∧ VRel R r r' := by
  unfold lindexAgg at hl
  split at hl
  · rename_i cs k n len e hd
    split at hl
    · rename_i z s b hi hb
      simp only [Bool.and_eq_true, decide_eq_true_eq] at hb
      have hv := hx.cells
      cases hx with
      | @agg _ a' h1 ha =>
        obtain ⟨r', h3, h4⟩ := lpart_ok hC (w := w) (cs' := a') hv hl
        refine ⟨r', ?_, h4⟩
        simp [Instr.index, run_underlying (hC.desc _ _ hd), asIntOf, run_sizeD hC hi, hb, h3]
    · cases hl
  · cases hl

theorem lmakeIface_ok (hC : C.Ok P) {t : TypeId} {x x' r : Value} (hx : VRel R x x') (hl : lmakeIface C t x = some r) : ∃ r', (Instr.makeInterface t x').run P w = .ok r' w ∧ VRel R r r' := by
  unfold lmakeIface at hl
  split at hl
  · cases hl
  · rename_i d hn hd
    injection hl with hl; subst hl
    refine ⟨_, ?_, .iface t hx⟩
    have := hC.desc _ _ hd
    cases d <;> first | exact absurd rfl (hn _) | simp [Instr.makeInterface, run_underlying this]
  · cases hl

theorem lassert_ok (hC : C.Ok P) {t xt : TypeId} {ok : Bool} {x x' r : Value} (hx : VRel R x x') (hl : lassert C x t ok = some r) : ∃ r', (Instr.typeAssert x' xt t ok).run P w = .ok r' w ∧ VRel R r r' := by
  unfold lassert at hl
  split at hl
  · cases hl
  · rename_i d v ds hn hd
    have hdd := hC.desc _ _ hd
    cases hx with
    | @iface _ _ v' hv =>
      split at hl
      · rename_i _ _ e
        have e := beq_t e
        subst e
        injection hl with hl; subst hl
        refine ⟨.tuple #[v', .bool true], ?_, tuple2 hv (.bool true)⟩
        cases ds <;> first | exact absurd rfl (hn _) | simp [Instr.typeAssert, run_underlying hdd]
      · rename_i _ _ e
        have e := beq_t e
        subst e
        injection hl with hl; subst hl
        refine ⟨v', ?_, hv⟩
        cases ds <;> first | exact absurd rfl (hn _) | simp [Instr.typeAssert, run_underlying hdd]
      · rename_i _ _ e
        have e := beq_f e
        split at hl
        · rename_i z n b hi
          injection hl with hl; subst hl
          refine ⟨.tuple #[z, .bool false], ?_, tuple2 (zero_rel hC hi) (.bool false)⟩
          cases ds <;> first | exact absurd rfl (hn _) | simp [Instr.typeAssert, run_underlying hdd, e, run_zeroD hC hi]
        · cases hl
      · cases hl
  · cases hl

section
variable (d : Nat) {t : TypeId}
theorem eqv1 {e : TypeId} (h : P.underlying t = some (.pointer e)) (b : Option Addr) : (Op.equalIn (d + 1) t (.pointer none) (.pointer b)).run P w = .ok b.isNone w := by
  rw [Op.equalIn, Sem.run_bind, run_underlying h]; rfl
theorem eqv2 {e : TypeId} (h : P.underlying t = some (.pointer e)) (a : Addr) : (Op.equalIn (d + 1) t (.pointer (some a)) (.pointer none)).run P w = .ok false w := by
  rw [Op.equalIn, Sem.run_bind, run_underlying h]; rfl
theorem eqv3 (hC : C.Ok P) {e : TypeId} {z : Value} {n bb : Nat} (h : P.underlying t = some (.pointer e)) (hi : C.info e = some (z, n, bb)) (hn : n ≠ 0) (a b : Addr) (hab : a.block = b.block) :
    (Op.equalIn (d + 1) t (.pointer (some a)) (.pointer (some b))).run P w = .ok (a == b) w := by
  rw [Op.equalIn, Sem.run_bind, run_underlying h, Result.andThen_ok]
  simp only [Sem.run_bind, run_sizeD hC hi, Result.andThen_ok, ne_eq, hn, not_false_eq_true, if_true, sameAddr, hab, beq_self_eq_true]
  rfl
theorem eqv4 {ms : Array (String × TypeId)} (h : P.underlying t = some (.interface ms)) (a : TypeId) (v : Value) : (Op.equalIn (d + 1) t .nilIface (.iface a v)).run P w = .ok false w := by
  rw [Op.equalIn, Sem.run_bind, run_underlying h]; rfl
theorem eqv5 {ms : Array (String × TypeId)} (h : P.underlying t = some (.interface ms)) (a : TypeId) (v : Value) : (Op.equalIn (d + 1) t (.iface a v) .nilIface).run P w = .ok false w := by
  rw [Op.equalIn, Sem.run_bind, run_underlying h]; rfl
theorem eqv6 {ms : Array (String × TypeId)} (h : P.underlying t = some (.interface ms)) (a b : TypeId) (v u : Value) (hab : a ≠ b) : (Op.equalIn (d + 1) t (.iface a v) (.iface b u)).run P w = .ok false w := by
  rw [Op.equalIn, Sem.run_bind, run_underlying h, Result.andThen_ok]
  simp only [ne_eq, hab, not_false_eq_true, if_true]
  rfl
theorem eqv7 {e : TypeId} (h : P.underlying t = some (.slice e)) (n c n' c' : Nat) (b : Option Addr) : (Op.equalIn (d + 1) t (.slice none n c) (.slice b n' c')).run P w = .ok b.isNone w := by
  rw [Op.equalIn, Sem.run_bind, run_underlying h]; rfl
theorem eqv8 {e : TypeId} (h : P.underlying t = some (.slice e)) (n c n' c' : Nat) (a : Addr) : (Op.equalIn (d + 1) t (.slice (some a) n c) (.slice none n' c')).run P w = .ok false w := by
  rw [Op.equalIn, Sem.run_bind, run_underlying h]; rfl
theorem eqv9 {k e : TypeId} (h : P.underlying t = some (.map k e)) (b : Option Nat) : (Op.equalIn (d + 1) t (.map none) (.map b)).run P w = .ok b.isNone w := by
  rw [Op.equalIn, Sem.run_bind, run_underlying h]; rfl
theorem eqv10 {k e : TypeId} (h : P.underlying t = some (.map k e)) (a : Nat) : (Op.equalIn (d + 1) t (.map (some a)) (.map none)).run P w = .ok false w := by
  rw [Op.equalIn, Sem.run_bind, run_underlying h]; rfl
theorem eqv11 {p r : Array TypeId} {v : Bool} (h : P.underlying t = some (.func p r v)) (f : Fn) (a c : Array Value) : (Op.equalIn (d + 1) t .nilFunc (.func f a c)).run P w = .ok false w := by
  rw [Op.equalIn, Sem.run_bind, run_underlying h]; rfl
theorem eqv12 {p r : Array TypeId} {v : Bool} (h : P.underlying t = some (.func p r v)) (f : Fn) (a c : Array Value) : (Op.equalIn (d + 1) t (.func f a c) .nilFunc).run P w = .ok false w := by
  rw [Op.equalIn, Sem.run_bind, run_underlying h]; rfl
end

theorem leq_ok (hC : C.Ok P) {t : TypeId} {x x' y y' : Value} {b : Bool} (hx : VRel R x x') (hy : VRel R y y') (hl : leq C t x y = some b) : (Op.equal t x' y').run P w = .ok b w := by
  suffices key : ∀ d, (Op.equalIn (d + 1) t x' y').run P w = .ok b w from key 9999
  intro dd
  unfold leq at hl
  split at hl
  · rename_i e q hd
    injection hl with hl; subst hl
    cases hx
    cases hy <;> exact eqv1 dd (hC.desc _ _ hd) _
  · rename_i e a hd
    injection hl with hl; subst hl
    cases hy
    cases hx
    exact eqv2 dd (hC.desc _ _ hd) _
  · rename_i e i o j q hd
    split at hl
    · rename_i z n bb hi
      split at hl
      · rename_i hn hij
        have hn := beq_f hn
        have hij := beq_t hij
        subst hij
        injection hl with hl
        cases hx with
        | @ptr _ p hp _ =>
          cases hy with
          | ptr hq _ =>
            rw [hp] at hq; injection hq with hq; subst hq
            have hb : (({ block := p.block, off := p.base + o, spot := none } : Addr) == { block := p.block, off := p.base + q, spot := none }) = b := by
              rw [← hl]
              by_cases e : o = q
              · subst e; simp [Nat.beq_refl]
              · have : Nat.beq o q = false := by
                  cases hb : Nat.beq o q
                  · rfl
                  · exact absurd (beq_t hb) e
                rw [this]
                simp [e]
            rw [← hb]
            exact eqv3 dd hC (hC.desc _ _ hd) hi hn _ _ rfl
      · cases hl
    · cases hl
  · rename_i ms t1 v1 hd
    injection hl with hl; subst hl
    cases hx; cases hy
    exact eqv4 dd (hC.desc _ _ hd) _ _
  · rename_i ms t1 v1 hd
    injection hl with hl; subst hl
    cases hy; cases hx
    exact eqv5 dd (hC.desc _ _ hd) _ _
  · rename_i ms a v1 b' v2 hd
    split at hl
    · rename_i e
      have e := beq_f e
      injection hl with hl; subst hl
      cases hx; cases hy
      exact eqv6 dd (hC.desc _ _ hd) _ _ _ _ e
    · cases hl
  · rename_i e n1 c1 bq n2 c2 hd
    injection hl with hl; subst hl
    cases hx
    cases hy <;> exact eqv7 dd (hC.desc _ _ hd) _ _ _ _ _
  · rename_i e a n1 c1 n2 c2 hd
    injection hl with hl; subst hl
    cases hy
    cases hx <;> exact eqv8 dd (hC.desc _ _ hd) _ _ _ _ _
  · rename_i k e bq hd
    injection hl with hl; subst hl
    cases hx
    cases hy <;> exact eqv9 dd (hC.desc _ _ hd) _
  · rename_i k e a hd
    injection hl with hl; subst hl
    cases hy
    cases hx
    exact eqv10 dd (hC.desc _ _ hd) _
  · rename_i p1 p2 p3 f a c hd
    injection hl with hl; subst hl
    cases hx
    cases hy <;> exact eqv11 dd (hC.desc _ _ hd) _ _ _
  · rename_i p1 p2 p3 f a c hd
    injection hl with hl; subst hl
    cases hy
    cases hx <;> exact eqv12 dd (hC.desc _ _ hd) _ _ _
  · cases hl

theorem lmakeMap_ok {t : TypeId} {r : Value} {H' : LH} (h : HRel R w0 H w) (hl : lmakeMap H = some (r, H')) :
    ∃ R' r' w', (Instr.makeMap t none).run P w = .ok r' w' ∧ R.le R' ∧ VRel R' r r' ∧ HRel R' w0 H' w' := by
  unfold lmakeMap at hl
  split at hl
  · rename_i hm
    have hm : (0 : Nat) < 1 := Nat.le_of_ble_eq_true hm
    injection hl with hl; injection hl with h1 h2; subst h1; subst h2
    refine ⟨R.add H.next ⟨w.heap.size, 0, 0, 0, 0⟩, .map (some w.heap.size), w.alloc (.map #[] 0), rfl, Ren.le_add _ (h.fresh _ (Nat.le_refl _)), .map (p := ⟨w.heap.size, 0, 0, 0, 0⟩) (Ren.add_self _ _ _), ?_⟩
    exact h.new hm rfl fun R' hR _ => .obj (heap_alloc_new w _) rfl (.map rfl (fun i e e' a b => by simp at a) 0)
  · cases hl

theorem lmakeSlice_ok (hC : C.Ok P) {t : TypeId} {l c r : Value} {H' : LH} (h : HRel R w0 H w) (hl : lmakeSlice C H t l c = some (r, H')) :
    ∃ R' r' w', (Instr.makeSlice t l c).run P w = .ok r' w' ∧ R.le R' ∧ VRel R' r r' ∧ HRel R' w0 H' w' := by
  unfold lmakeSlice at hl
  split at hl
  · rename_i e k1 ll k2 cc hd
    split at hl
    · rename_i z n b hi
      split at hl
      · rename_i hb
        simp only [Bool.and_eq_true, decide_eq_true_eq] at hb
        obtain ⟨⟨⟨⟨⟨b1, b2⟩, b3⟩, b4⟩, b5⟩, b6⟩ := hb
        have b4 := Nat.le_of_ble_eq_true b4
        have b5 : 0 < n := Nat.le_of_ble_eq_true b5
        have b6 : (0 : Nat) < 1 := Nat.le_of_ble_eq_true b6
        injection hl with hl; injection hl with h1 h2; subst h1; subst h2
        obtain ⟨ie, g1, g2, g3, g4, g5, g6⟩ := hC.info _ _ _ _ hi
        have wl : IntKind.i64.wrap ll = ll := IntWalk.i64_in _ (by omega)
        have wc : IntKind.i64.wrap cc = cc := IntWalk.i64_in _ (by omega)
        have hflat : ((Array.range (cc.toNat * n)).map (z.cells[· % z.cells.size]!)).toList.all flat = true := by
          rcases flats_range g6 (cc.toNat * n) with h | h
          · exact h
          · rw [g5] at h; omega
        have hrow := h.row b6 e n (VRels.flats (R := R) hflat)
        have hbytes : (ie.bytes : Int) * cc ≤ 281474976710656 := by
          rw [g4]
          have h1 : (b : Int) * cc ≤ 4096 * 65536 := Int.mul_le_mul (by omega) b3 (by omega) (by omega)
          omega
        have hrun : (Instr.makeSlice t (.int k1 ll) (.int k2 cc)).run P w = .ok (.slice (some ⟨w.heap.size, 0, none⟩) ll.toNat cc.toNat) (w.alloc (.cells ((Array.range (cc.toNat * n)).map (z.cells[· % z.cells.size]!)) e)) := by
          have n1 : ¬ cc < 0 := by omega
          have n2 : ¬ ll < 0 := by omega
          have n3 : ¬ ll > cc := by omega
          have n4 : ¬ (281474976710656 : Int) < ie.bytes * cc := by omega
          by_cases e0 : cc.toNat * n = 0
          · simp [Instr.makeSlice, run_underlying (hC.desc _ _ hd), asInt, asIntOf, typeInfo, g1, wl, wc, n1, n2, n3, n4, run_sizeD hC hi, e0, newRow]
            rw [show Array.range 0 = #[] by simp [Array.range]]
            simp
          · simp [Instr.makeSlice, run_underlying (hC.desc _ _ hd), asInt, asIntOf, typeInfo, g1, wl, wc, n1, n2, n3, n4, run_sizeD hC hi, e0, run_zeroD hC hi, newRow]
        refine ⟨_, _, _, hrun, Ren.le_add _ (h.fresh _ (Nat.le_refl _)), ?_, hrow⟩
        have := VRel.slice (Ren.add_self R H.next ⟨w.heap.size, 0, ((Array.range (cc.toNat * n)).map (z.cells[· % z.cells.size]!)).toList.length, ((Array.range (cc.toNat * n)).map (z.cells[· % z.cells.size]!)).toList.length, n⟩) 0 ll.toNat cc.toNat cc.toNat (by omega) (.inl rfl)
        simpa using this
      · cases hl
    · cases hl
  · cases hl
end
end Go.Proofs.YtiedaccgagnofaaGreat
