/- What the program's own operations come to beside those of the second run: maps, bytes, copies. -/
import Derived.Test.YtiedaccgagnofaaGreatI
namespace Go.Proofs.YtiedaccgagnofaaGreat
open Go.RowKit

section
variable {P : Program} {C : Tab} {R : Ren} {w0 : Fr} {w : World} {H : LH}

/-- Entries, one by one. -/
def ERel (R : Ren) (e e' : MapEntry) : Prop := e.born = e'.born ∧ e.key = e'.key ∧ flat e.key = true ∧ VRel R e.val e'.val
def ERels (R : Ren) (es es' : Array MapEntry) : Prop := es.size = es'.size ∧ ∀ (i : Nat) (e e' : MapEntry), es[i]? = some e → es'[i]? = some e' → ERel R e e'

theorem ERels.toORel {es es' : Array MapEntry} (h : ERels R es es') (c : Nat) : ORel R (.map es c) (.map es' c) := .map h.1 h.2 c

/-- A map as memory has it. -/
theorem HRel.mapAt (h : HRel R w0 H w) {id : Nat} {p : Place} (hp : R id = some p) {es : Array MapEntry} {c : Nat} (ho : H.at id = some (.obj (.map es c))) :
    ∃ es', w.heap[p.block]? = some (.map es' c) ∧ ERels R es es' := by
  obtain ⟨_, hh⟩ := h.get ho hp
  cases hh with
  | obj hh hz ho =>
    cases ho with
    | map h1 h2 _ => exact ⟨_, hh, h1, h2⟩
theorem HRel.base (h : HRel R w0 H w) {id : Nat} {p : Place} (hp : R id = some p) {o : Obj} (ho : H.at id = some (.obj o)) : p.base = 0 ∧ ∃ o', w.heap[p.block]? = some o' ∧ ORel R o o' := by
  obtain ⟨_, hh⟩ := h.get ho hp
  cases hh with
  | obj hh hz ho => exact ⟨hz, _, hh, ho⟩

theorem run_getObj_at {r : Nat} {o : Obj} (h : w.heap[r]? = some o) (hn : ∀ c e f, o ≠ .cells c e f) : (getObj r).run P w = .ok o w := by
  cases o <;> first | exact absurd rfl (hn _ _ _) | simp [getObj, Sem.run, h]
def putObj (w : World) (r : Nat) (o : Obj) : World := { w with heap := w.heap.setIfInBounds r o }
theorem run_setObj_at {r : Nat} {o o' : Obj} (h : w.heap[r]? = some o) (hn : ∀ c e f, o ≠ .cells c e f) : (setObj r o').run P w = .ok () (putObj w r o') := by
  cases o <;> first | exact absurd rfl (hn _ _ _) | simp [setObj, Sem.run, h, putObj]

/-- An object that is no row is changed. -/
theorem HRel.setObj (h : HRel R w0 H w) {id : Nat} (hm : (0 : Nat) < 1) {p : Place} (hp : R id = some p) {o : LObj} {x : LObj} {o2 : Obj} (ho : H.at id = some o)
    (hx : ∀ w', w'.heap[p.block]? = some o2 → Holds R w' p x) : HRel R w0 (H.put id (some x)) (putObj w p.block o2) := by
  obtain ⟨_, hh⟩ := h.get ho hp
  have hlt := hh.lt
  refine h.turn hm ho hp (fun b hb => ?_) (by simp [putObj]) rfl rfl rfl (hx _ ?_)
  · simp [putObj, Array.getElem?_setIfInBounds_ne (Ne.symm hb)]
  · simp [putObj, hlt]

theorem run_checkKey {kt : TypeId} {d : TypeDesc} {k : Value} (hd : P.underlying kt = some d) (hk : ∀ ms, d ≠ .interface ms) (hk2 : ∀ n e, d ≠ .array n e) (hk3 : ∀ fs, d ≠ .struct fs) (b : Bool) : (Instr.checkKey b 10000 kt k).run P w = .ok () w := by
  rw [Instr.checkKey, Sem.run_bind, run_underlying hd]
  cases d <;> first | rfl | exact absurd rfl (hk _) | exact absurd rfl (hk2 _ _) | exact absurd rfl (hk3 _)

theorem findNow_rel {d : TypeDesc} {k : Value} : ∀ (l l' : List MapEntry) (i : Nat) (r : Option (Nat × Value)), l.length = l'.length → (∀ (j : Nat) (e e' : MapEntry), l[j]? = some e → l'[j]? = some e' → ERel R e e') → Instr.findNow d k l i = some r →
    (r = none ∧ Instr.findNow d k l' i = some none) ∨ ∃ j v v', r = some (j, v) ∧ Instr.findNow d k l' i = some (some (j, v')) ∧ VRel R v v' ∧ i ≤ j ∧ ∃ e e', l[j - i]? = some e ∧ l'[j - i]? = some e' ∧ Instr.sameNow d k e.key = some true
  | [], l', i, r, h, _, hf => by
    have : l' = [] := List.eq_nil_of_length_eq_zero h.symm
    subst this
    simp [Instr.findNow] at hf
    exact .inl ⟨hf.symm, rfl⟩
  | e :: l, l', i, r, h, he, hf => by
    cases l' with
    | nil => simp at h
    | cons e' l' =>
      have h0 := he 0 e e' rfl rfl
      simp only [Instr.findNow] at hf ⊢
      rw [← h0.2.1]
      split at hf
      · rename_i hs
        injection hf with hf; subst hf
        exact .inr ⟨i, e.val, e'.val, rfl, rfl, h0.2.2.2, Nat.le_refl _, e, e', by simp, by simp, hs⟩
      · rename_i hs
        rcases findNow_rel l l' (i + 1) r (by simpa using h) (fun j a b x y => he (j + 1) a b (by simpa using x) (by simpa using y)) hf with h1 | ⟨j, v, v', h1, h2, h3, h4, a, a', h5, h6, h7⟩
        · exact .inl h1
        · refine .inr ⟨j, v, v', h1, h2, h3, by omega, a, a', ?_, ?_, h7⟩
          · rw [show j - i = (j - (i + 1)) + 1 by omega, List.getElem?_cons_succ]; exact h5
          · rw [show j - i = (j - (i + 1)) + 1 by omega, List.getElem?_cons_succ]; exact h6
      · cases hf

/-- What is found in the one is found in the other. -/
theorem lfind_ok (hC : C.Ok P) {kt : TypeId} {k : Value} {es es' : Array MapEntry} {r : Option (Nat × Value)} (he : ERels R es es') (hf : lfind C kt k es = some r) :
    (∃ d, P.underlying kt = some d ∧ (∀ ms, d ≠ .interface ms) ∧ (∀ n e, d ≠ .array n e) ∧ (∀ fs, d ≠ .struct fs)) ∧
    ((r = none ∧ (Instr.findKey kt k es'.toList).run P w = .ok none w) ∨ ∃ j v v' e e', r = some (j, v) ∧ (Instr.findKey kt k es'.toList).run P w = .ok (some (j, v')) w ∧ VRel R v v' ∧ es[j]? = some e ∧ es'[j]? = some e' ∧ ERel R e e' ∧
      ∃ d, Instr.sameNow d k e.key = some true) := by
  unfold lfind at hf
  split at hf
  · rename_i d hd
    have hdd := hC.desc _ _ hd
    have hd' : Instr.findNow d k es.toList 0 = some r ∧ ((∀ ms, d ≠ .interface ms) ∧ (∀ n e, d ≠ .array n e) ∧ (∀ fs, d ≠ .struct fs)) := by
      split at hf
      · exact ⟨hf, by refine ⟨?_, ?_, ?_⟩ <;> intros <;> simp⟩
      · exact ⟨hf, by refine ⟨?_, ?_, ?_⟩ <;> intros <;> simp⟩
      · exact ⟨hf, by refine ⟨?_, ?_, ?_⟩ <;> intros <;> simp⟩
      · cases hf
    obtain ⟨hf', hn⟩ := hd'
    refine ⟨⟨d, hdd, hn⟩, ?_⟩
    have hel := findNow_rel (R := R) es.toList es'.toList 0 r (by simpa using he.1) (fun j a b x y => he.2 j a b (by simpa using x) (by simpa using y)) hf'
    rcases hel with ⟨h1, h2⟩ | ⟨j, v, v', h1, h2, h3, _, a, a', h5, h6, h7⟩
    · exact .inl ⟨h1, by simp [Instr.findKey, run_underlying hdd, h2]⟩
    · have g5 : es[j]? = some a := by simpa using h5
      have g6 : es'[j]? = some a' := by simpa using h6
      exact .inr ⟨j, v, v', a, a', h1, by simp [Instr.findKey, run_underlying hdd, h2], h3, g5, g6, he.2 j a a' g5 g6, d, h7⟩
  · cases hf

theorem llookup_ok (hC : C.Ok P) {t : TypeId} {x x' k r : Value} {ok : Bool} (h : HRel R w0 H w) (hx : VRel R x x') (hl : llookup C H t x k ok = some r) : ∃ r', (Instr.lookup t x' k ok).run P w = .ok r' w ∧ VRel R r r' := by
  unfold llookup at hl
  split at hl
  · rename_i kt et hd
    have hdd := hC.desc _ _ hd
    split at hl
    · rename_i es cc hm
      -- the entries
      have hes : ∃ es', ((x' = .map none ∧ es' = #[]) ∨ ∃ b c, x' = .map (some b) ∧ w.heap[b]? = some (.map es' c)) ∧ ERels R es es' := by
        unfold lmapOf at hm
        split at hm
        · injection hm with hm; injection hm with h1 h2; subst h1
          cases hx
          exact ⟨#[], .inl ⟨rfl, rfl⟩, rfl, fun i e e' a => by simp at a⟩
        · rename_i id
          split at hm
          · rename_i es0 c0 hat
            injection hm with hm; injection hm with h1 h2; subst h1
            cases hx with
            | @map _ p hp =>
              obtain ⟨es', g1, g2⟩ := h.mapAt hp hat
              exact ⟨es', .inr ⟨p.block, _, rfl, g1⟩, g2⟩
          · cases hm
        · cases hm
      obtain ⟨es', he1, he2⟩ := hes
      have hgo : ∀ (q : Option (Nat × Value)) (res : Value), (∃ d, P.underlying kt = some d ∧ (∀ ms, d ≠ .interface ms) ∧ (∀ n e, d ≠ .array n e) ∧ (∀ fs, d ≠ .struct fs)) → (Instr.findKey kt k es'.toList).run P w = .ok q w →
          (match q with | some (_, v) => res = (if ok then .tuple #[v, .bool true] else v) | none => ∃ z n b, C.info et = some (z, n, b) ∧ res = (if ok then .tuple #[z, .bool false] else z)) →
          (Instr.lookup t x' k ok).run P w = .ok res w := by
        rintro q res ⟨d, hkd, n1, n2, n3⟩ hq hres
        rcases he1 with ⟨rfl, rfl⟩ | ⟨b, c, rfl, hb⟩
        · cases q with
          | none =>
            obtain ⟨z, n, bb, hi, rfl⟩ := hres
            simp only [Instr.lookup, Sem.run_bind, run_underlying hdd, Result.andThen_ok, Sem.run_pure, run_checkKey hkd n1 n2 n3, hq, run_zeroD hC hi]
          | some q =>
            obtain ⟨a, v⟩ := q
            simp only at hres
            subst hres
            simp only [Instr.lookup, Sem.run_bind, run_underlying hdd, Result.andThen_ok, Sem.run_pure, run_checkKey hkd n1 n2 n3, hq]
        · cases q with
          | none =>
            obtain ⟨z, n, bb, hi, rfl⟩ := hres
            simp only [Instr.lookup, Sem.run_bind, run_underlying hdd, Result.andThen_ok, Sem.run_pure, run_getObj_at hb (fun _ _ _ => by simp), run_checkKey hkd n1 n2 n3, hq, run_zeroD hC hi]
          | some q =>
            obtain ⟨a, v⟩ := q
            simp only at hres
            subst hres
            simp only [Instr.lookup, Sem.run_bind, run_underlying hdd, Result.andThen_ok, Sem.run_pure, run_getObj_at hb (fun _ _ _ => by simp), run_checkKey hkd n1 n2 n3, hq]
      split at hl
      · rename_i j v info hf hi
        obtain ⟨hk, hr⟩ := lfind_ok hC (w := w) he2 hf
        rcases hr with ⟨h1, _⟩ | ⟨j', v1, v', e, e', h1, h2, h3, _⟩
        · cases h1
        · injection h1 with h1; injection h1 with h1 h1'; subst h1; subst h1'
          injection hl with hl; subst hl
          refine ⟨if ok then .tuple #[v', .bool true] else v', hgo _ _ hk h2 rfl, ?_⟩
          cases ok
          · exact h3
          · exact tuple2 h3 (.bool true)
      · rename_i z n b hf hi
        obtain ⟨hk, hr⟩ := lfind_ok hC (w := w) he2 hf
        rcases hr with ⟨h1, h2⟩ | ⟨j', v1, v', e, e', h1, _⟩
        · injection hl with hl; subst hl
          refine ⟨if ok then .tuple #[z, .bool false] else z, hgo _ _ hk h2 ⟨z, n, b, hi, rfl⟩, ?_⟩
          cases ok
          · exact zero_rel hC hi
          · exact tuple2 (zero_rel hC hi) (.bool false)
        · cases h1
      · cases hl
    · cases hl
  · cases hl

theorem bytes_eq {a b : ByteArray} (h : (a == b) = true) : a = b := by
  have h2 : (a.data == b.data) = true := h
  have e := eq_of_beq h2
  cases a; cases b; simp at e; rw [e]
theorem bytes_refl (a : ByteArray) : (a == a) = true := by
  show (a.data == a.data) = true
  simp
theorem sameBits_of {d : TypeDesc} {k k' : Value} (h : Instr.sameNow d k k' = some true) : Instr.sameBits 10000 k' k = true := by
  unfold Instr.sameNow at h
  split at h
  · split at h
    · rename_i hk; subst hk
      simp at h; subst h
      simp [Instr.sameBits]
    · cases h
  · simp only [Option.some.injEq] at h
    rw [bytes_eq h]
    simp [Instr.sameBits, bytes_refl]
  · simp at h; subst h; simp [Instr.sameBits]
  · cases h

theorem lupdate_ok (hC : C.Ok P) {t : TypeId} {x x' k v v' : Value} {H' : LH} (h : HRel R w0 H w) (hx : VRel R x x') (hv : VRel R v v') (hl : lupdate C H t x k v = some H') :
    ∃ w', (Instr.mapUpdate t x' k v').run P w = .ok () w' ∧ HRel R w0 H' w' := by
  unfold lupdate at hl
  split at hl
  · rename_i kt et id hd
    have hdd := hC.desc _ _ hd
    split at hl
    · rename_i es c hat hb
      simp only [Bool.and_eq_true] at hb
      obtain ⟨hid, hfk⟩ := hb
      have hid : (0 : Nat) < 1 := Nat.le_of_ble_eq_true hid
      cases hx with
      | @map _ p hp =>
        obtain ⟨es', g1, g2⟩ := h.mapAt hp hat
        split at hl
        · rename_i j vv hf
          injection hl with hl; subst hl
          obtain ⟨⟨d, hkd, n1, n2, n3⟩, hr⟩ := lfind_ok hC (w := w) g2 hf
          rcases hr with ⟨h1, _⟩ | ⟨j', v1, v2, e, e', h1, h2, h3, h4, h5, h6, d', h7⟩
          · cases h1
          · injection h1 with h1; injection h1 with h1 h1'; subst h1; subst h1'
            have hsame : Instr.sameBits 10000 e'.key k = true := by rw [← h6.2.1]; exact sameBits_of h7
            have hkeep : ((es'[j]?).map (·.key)).getD k = e'.key := by rw [h5]; rfl
            refine ⟨putObj w p.block (.map (es'.modify j fun e => { e with key := k, val := v' }) c), ?_, ?_⟩
            · simp only [Instr.mapUpdate, Sem.run_bind, run_underlying hdd, Result.andThen_ok, run_getObj_at g1 (fun _ _ _ => by simp), run_checkKey hkd n1 n2 n3, h2, hkeep, Instr.keyThatStays, hsame, if_true, Sem.run_pure, run_setObj_at g1 (fun _ _ _ => by simp)]
            · refine h.setObj hid hp hat fun w' hw' => .obj hw' (h.base hp hat).1 (.map (by simp [g2.1]) (fun i a a' ha ha' => ?_) c)
              rw [Array.getElem?_modify] at ha ha'
              by_cases e0 : j = i
              · subst e0
                rw [if_pos rfl] at ha ha'
                rw [h4] at ha; rw [h5] at ha'
                simp at ha ha'
                subst ha; subst ha'
                exact ⟨h6.1, rfl, hfk, hv⟩
              · rw [if_neg e0] at ha ha'
                exact g2.2 i a a' ha ha'
        · rename_i hf
          injection hl with hl; subst hl
          obtain ⟨⟨d, hkd, n1, n2, n3⟩, hr⟩ := lfind_ok hC (w := w) g2 hf
          rcases hr with ⟨_, h2⟩ | ⟨j', v1, v2, e, e', h1, _⟩
          · refine ⟨putObj w p.block (.map (es'.push { key := k, val := v', born := c }) (c + 1)), ?_, ?_⟩
            · simp only [Instr.mapUpdate, Sem.run_bind, run_underlying hdd, Result.andThen_ok, run_getObj_at g1 (fun _ _ _ => by simp), run_checkKey hkd n1 n2 n3, h2, run_setObj_at g1 (fun _ _ _ => by simp)]
            · refine h.setObj hid hp hat fun w' hw' => .obj hw' (h.base hp hat).1 (.map (by simp [g2.1]) (fun i a a' ha ha' => ?_) (c + 1))
              rw [Array.getElem?_push] at ha ha'
              rw [← g2.1] at ha'
              split at ha
              · rename_i e0
                rw [if_pos e0] at ha'
                injection ha with ha; injection ha' with ha'
                subst ha; subst ha'
                exact ⟨rfl, rfl, hfk, hv⟩
              · rename_i e0
                rw [if_neg e0] at ha'
                exact g2.2 i a a' ha ha'
          · cases h1
        · cases hl
    · cases hl
  · cases hl

theorem eraseIdx_rel {es es' : Array MapEntry} (h : ERels R es es') (i : Nat) : ERels R (es.eraseIdxIfInBounds i) (es'.eraseIdxIfInBounds i) := by
  have hs := h.1
  unfold Array.eraseIdxIfInBounds
  by_cases hi : i < es.size
  · have hi' : i < es'.size := by omega
    rw [dif_pos hi, dif_pos hi']
    refine ⟨by simp [hs], fun j a a' ha ha' => ?_⟩
    rw [Array.getElem?_eraseIdx] at ha ha'
    split at ha
    · rename_i hj; rw [if_pos hj] at ha'; exact h.2 j a a' ha ha'
    · rename_i hj; rw [if_neg hj] at ha'; exact h.2 (j + 1) a a' ha ha'
  · have hi' : ¬ i < es'.size := by omega
    rw [dif_neg hi, dif_neg hi']
    exact h

theorem ldelete_ok (hC : C.Ok P) {t ty : TypeId} {ts : Array TypeId} {x x' k : Value} {H' : LH} (h : HRel R w0 H w) (hx : VRel R x x') (ht : ts[0]? = some t) (hl : ldelete C H t x k = some H') :
    ∃ w', (Builtin.delete_ ts ty #[x', k]).run P w = .ok (.tuple #[]) w' ∧ HRel R w0 H' w' := by
  unfold ldelete at hl
  split at hl
  · rename_i kt et id hd
    have hdd := hC.desc _ _ hd
    split at hl
    · rename_i es c hat hid
      have hid : (0 : Nat) < 1 := Nat.le_of_ble_eq_true hid
      cases hx with
      | @map _ p hp =>
        obtain ⟨es', g1, g2⟩ := h.mapAt hp hat
        split at hl
        · rename_i j vv hf
          injection hl with hl; subst hl
          obtain ⟨⟨d, hkd, n1, n2, n3⟩, hr⟩ := lfind_ok hC (w := w) g2 hf
          rcases hr with ⟨h1, _⟩ | ⟨j', v1, v2, e, e', h1, h2, _⟩
          · cases h1
          · injection h1 with h1; injection h1 with h1 h1'; subst h1
            refine ⟨putObj w p.block (.map (es'.eraseIdxIfInBounds j) c), ?_, h.setObj hid hp hat fun w' hw' => .obj hw' (h.base hp hat).1 ((eraseIdx_rel g2 j).toORel c)⟩
            simp [Builtin.delete_, ht, run_underlying hdd, run_getObj_at g1 (fun _ _ _ => by simp), run_checkKey hkd n1 n2 n3, h2, run_setObj_at g1 (fun _ _ _ => by simp)]
        · rename_i hf
          injection hl with hl; subst hl
          obtain ⟨⟨d, hkd, n1, n2, n3⟩, hr⟩ := lfind_ok hC (w := w) g2 hf
          rcases hr with ⟨_, h2⟩ | ⟨j', v1, v2, e, e', h1, _⟩
          · refine ⟨putObj w p.block (.map es' c), ?_, h.setObj hid hp hat fun w' hw' => .obj hw' (h.base hp hat).1 (g2.toORel c)⟩
            simp [Builtin.delete_, ht, run_underlying hdd, run_getObj_at g1 (fun _ _ _ => by simp), run_checkKey hkd n1 n2 n3, h2, run_setObj_at g1 (fun _ _ _ => by simp)]
          · cases h1
        · cases hl
    · cases hl
  · cases hl
end
end Go.Proofs.YtiedaccgagnofaaGreat
