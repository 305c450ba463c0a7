/- What the program's own operations come to beside those of the second run: going over maps, bytes, copies, numbers. -/
import Derived.Test.YtiedaccgagnofaaGreatJ
namespace Go.Proofs.YtiedaccgagnofaaGreat
open Go.RowKit

section
variable {P : Program} {C : Tab} {R : Ren} {w0 : Fr} {w : World} {H : LH}

theorem run_newObj (o : Obj) : (newObj o).run P w = .ok w.heap.size (w.alloc o) := rfl

/-- A new object that is no row. -/
theorem HRel.newObj (h : HRel R w0 H w) (hm : (0 : Nat) < 1) {x : LObj} {o : Obj} (hx : ∀ R' w', R.le R' → w'.heap[w.heap.size]? = some o → Holds R' w' ⟨w.heap.size, 0, 0, 0, 0⟩ x) :
    HRel (R.add H.next ⟨w.heap.size, 0, 0, 0, 0⟩) w0 (H.new x) (w.alloc o) :=
  h.new hm rfl fun R' hR _ => hx R' _ hR (heap_alloc_new w _)

theorem lrange_ok (hC : C.Ok P) {t : TypeId} {x x' r : Value} {H' : LH} (h : HRel R w0 H w) (hx : VRel R x x') (hl : lrange C H t x = some (r, H')) :
    ∃ R' r' w', (Instr.range t x').run P w = .ok r' w' ∧ R.le R' ∧ VRel R' r r' ∧ HRel R' w0 H' w' := by
  unfold lrange at hl
  split at hl
  · rename_i k e hd hm
    have hm : (0 : Nat) < 1 := Nat.le_of_ble_eq_true hm
    have hdd := hC.desc _ _ hd
    have hf := h.fresh _ (Nat.le_refl _)
    have hptr : VRel (R.add H.next ⟨w.heap.size, 0, 0, 0, 0⟩) (.pointer (some ⟨H.next, 0, none⟩)) (.pointer (some ⟨w.heap.size, 0, none⟩)) := VRel.ptr (p := ⟨w.heap.size, 0, 0, 0, 0⟩) (Ren.add_self _ _ _) 0
    split at hl
    · injection hl with hl; injection hl with h1 h2; subst h1; subst h2
      cases hx
      exact ⟨_, _, w.alloc (.mapIter none 0 #[] 0), by simp only [Instr.range, Sem.run_bind, run_underlying hdd, Result.andThen_ok, Sem.run_pure, run_newObj], Ren.le_add _ hf, hptr, h.newObj hm fun R' w' _ hw => .obj hw rfl (.nilIter _ _ _)⟩
    · rename_i id
      split at hl
      · rename_i es c hat
        injection hl with hl; injection hl with h1 h2; subst h1; subst h2
        cases hx with
        | @map _ p hp =>
          obtain ⟨es', g1, g2⟩ := h.mapAt hp hat
          refine ⟨_, _, w.alloc (.mapIter (some p.block) c #[] c), ?_, Ren.le_add _ hf, hptr, h.newObj hm fun R' w' hR hw => .obj hw rfl (.mapIter (hR _ _ hp) _ _ _)⟩
          simp only [Instr.range, Sem.run_bind, run_underlying hdd, Result.andThen_ok, run_getObj_at g1 (fun _ _ _ => by simp), Sem.run_pure, run_newObj]
      · cases hl
    · cases hl
  · cases hl

theorem filter_rel {es es' : List MapEntry} (q : Nat → Bool) (h : es.length = es'.length) (he : ∀ (i : Nat) (e e' : MapEntry), es[i]? = some e → es'[i]? = some e' → ERel R e e') :
    (es.filter fun e => q e.born).length = (es'.filter fun e => q e.born).length ∧ ∀ (i : Nat) (e e' : MapEntry), (es.filter fun e => q e.born)[i]? = some e → (es'.filter fun e => q e.born)[i]? = some e' → ERel R e e' := by
  induction es generalizing es' with
  | nil => have : es' = [] := List.eq_nil_of_length_eq_zero h.symm; subst this; exact ⟨rfl, fun i e e' a => by simp at a⟩
  | cons e es ih =>
    cases es' with
    | nil => simp at h
    | cons e' es' =>
      have h0 := he 0 e e' rfl rfl
      obtain ⟨i1, i2⟩ := ih (es' := es') (by simpa using h) (fun i a b x y => he (i + 1) a b (by simpa using x) (by simpa using y))
      simp only [List.filter_cons, ← h0.1]
      by_cases hq : q e.born = true
      · rw [if_pos hq, if_pos hq]
        refine ⟨by simp [i1], fun i a b x y => ?_⟩
        cases i with
        | zero => simp at x y; subst x; subst y; exact h0
        | succ i => exact i2 i a b (by simpa using x) (by simpa using y)
      · rw [if_neg hq, if_neg hq]; exact ⟨i1, i2⟩

theorem all_rel {es es' : Array MapEntry} (h : ERels R es es') (q : Nat → Bool) : es.all (fun e => q e.born) = es'.all (fun e => q e.born) := by
  rw [Bool.eq_iff_iff, Array.all_eq_true_iff_forall_mem, Array.all_eq_true_iff_forall_mem]
  constructor
  · intro ha x hx
    obtain ⟨i, hi⟩ := Array.mem_iff_getElem?.1 hx
    have hl : i < es'.size := (Array.getElem?_eq_some_iff.1 hi).1
    have he : es[i]? = some (es[i]'(by rw [h.1]; exact hl)) := Array.getElem?_eq_getElem _
    rw [← (h.2 i _ _ he hi).1]
    exact ha _ (Array.mem_of_getElem? he)
  · intro ha x hx
    obtain ⟨i, hi⟩ := Array.mem_iff_getElem?.1 hx
    have hl : i < es.size := (Array.getElem?_eq_some_iff.1 hi).1
    have he : es'[i]? = some (es'[i]'(by rw [← h.1]; exact hl)) := Array.getElem?_eq_getElem _
    rw [(h.2 i _ _ hi he).1]
    exact ha _ (Array.mem_of_getElem? he)

theorem lnext_ok {x x' r : Value} {ty : TypeId} {H' : LH} (h : HRel R w0 H w) (hx : VRel R x x') (hl : lnext H x = some (r, H')) :
    ∃ r' w', (Instr.next x' false ty).run P w = .ok r' w' ∧ VRel R r r' ∧ HRel R w0 H' w' := by
  unfold lnext at hl
  split at hl
  · rename_i id
    cases hx with
    | @ptr _ p hp _ =>
    split at hl
    · rename_i a b c hat
      injection hl with hl; injection hl with h1 h2; subst h1; subst h2
      obtain ⟨hz, o', g1, g2⟩ := h.base hp hat
      cases g2
      refine ⟨_, w, ?_, VRel.of_flat1 R rfl, h⟩
      simp only [Instr.next, hz, Nat.add_zero, Sem.run_bind, run_getObj_at g1 (fun _ _ _ => by simp), Result.andThen_ok, Sem.run_pure]
    · rename_i m since seen last hat
      obtain ⟨hz, o', g1, g2⟩ := h.base hp hat
      split at hl
      · rename_i es clock hm hid
        have hid : (0 : Nat) < 1 := Nat.le_of_ble_eq_true hid
        cases g2 with
        | @mapIter _ q hq _ _ _ =>
        obtain ⟨es', k1, k2⟩ := h.mapAt hq hm
        have hall := all_rel k2 (fun b => decide (b ≥ last))
        have hemp : es.isEmpty = es'.isEmpty := by simp [Array.isEmpty, k2.1]
        split at hl
        · cases hl
        · rename_i hcond
          rw [hall, hemp] at hcond
          obtain ⟨f1, f2⟩ := filter_rel (fun b => !seen.contains b) (es := es.toList) (es' := es'.toList) (by simpa using k2.1) (fun i a b x y => k2.2 i a b (by simpa using x) (by simpa using y))
          have hleft : (es'.filter fun e => !seen.contains e.born).toList = es'.toList.filter fun e => !seen.contains e.born := Array.toList_filter
          have hleft0 : (es.filter fun e => !seen.contains e.born).toList = es.toList.filter fun e => !seen.contains e.born := Array.toList_filter
          rw [hleft0] at hl
          split at hl
          · rename_i hnil
            injection hl with hl; injection hl with h1 h2; subst h1; subst h2
            rw [hnil] at f1
            have hn' : (es'.filter fun e => !seen.contains e.born) = #[] := Array.eq_empty_of_size_eq_zero (by rw [← Array.length_toList, hleft]; exact f1.symm)
            refine ⟨_, w, ?_, VRel.of_flat1 R rfl, h⟩
            simp only [Instr.next, hz, Nat.add_zero, Sem.run_bind, run_getObj_at g1 (fun _ _ _ => by simp), Result.andThen_ok, run_getObj_at k1 (fun _ _ _ => by simp), hcond, hn']
            simp [choose, Sem.run, Question.forced]
          · rename_i e hone
            split at hl
            · rename_i hborn
              injection hl with hl; injection hl with h1 h2; subst h1; subst h2
              rw [hone] at f1 f2
              obtain ⟨e', he'⟩ := List.length_eq_one_iff.1 f1.symm
              rw [he'] at f2
              have hr := f2 0 e e' rfl rfl
              have hn' : (es'.filter fun e => !seen.contains e.born) = #[e'] := by
                apply Array.ext'
                rw [hleft, he']
              have hb' : decide (e'.born < since) = true := by rw [← hr.1]; exact hborn
              have hb2 : ¬ e'.born ≥ since := by have := of_decide_eq_true hb'; omega
              refine ⟨.tuple #[.bool true, e'.key, e'.val], putObj w p.block (.mapIter (some q.block) since (seen.push e'.born) clock), ?_, tuple3 (.bool true) (by rw [← hr.2.1]; exact VRel.of_flat R hr.2.2.1) hr.2.2.2, ?_⟩
              · simp only [Instr.next, hz, Nat.add_zero, Sem.run_bind, run_getObj_at g1 (fun _ _ _ => by simp), Result.andThen_ok, run_getObj_at k1 (fun _ _ _ => by simp), hcond, hn']
                simp [choose, Sem.run, Question.forced, hb2, run_setObj_at g1 (fun _ _ _ => by simp), of_decide_eq_true hb']
              · rw [hr.1]
                exact h.setObj hid hp hat fun w' hw' => .obj hw' hz (.mapIter hq _ _ _)
            · cases hl
          · cases hl
      · cases hl
    · cases hl
  · cases hl

theorem find_rel {es es' : List MapEntry} (q : Nat → Bool) (h : es.length = es'.length) (he : ∀ (i : Nat) (e e' : MapEntry), es[i]? = some e → es'[i]? = some e' → ERel R e e') {e : MapEntry} (hf : es.find? (fun e => q e.born) = some e) :
    ∃ e', es'.find? (fun e => q e.born) = some e' ∧ ERel R e e' := by
  induction es generalizing es' with
  | nil => cases hf
  | cons a es ih =>
    cases es' with
    | nil => simp at h
    | cons a' es' =>
      have h0 := he 0 a a' rfl rfl
      rw [List.find?_cons] at hf ⊢
      rw [← h0.1]
      split at hf
      · injection hf with hf; subst hf
        exact ⟨a', rfl, h0⟩
      · exact ih (by simpa using h) (fun i x y p1 p2 => he (i + 1) x y (by simpa using p1) (by simpa using p2)) hf

theorem lentry_ok {x x' r : Value} (h : HRel R w0 H w) (hx : VRel R x x') (hl : lentry H x = some r) : ∃ r', (Instr.entry x').run P w = .ok r' w ∧ VRel R r r' := by
  unfold lentry at hl
  split at hl
  · rename_i id
    cases hx with
    | @ptr _ p hp _ =>
    split at hl
    · rename_i m since seen stepped hat
      obtain ⟨hz, o', g1, g2⟩ := h.base hp hat
      split at hl
      · rename_i es clock stamp hm hback
        cases g2 with
        | @mapIter _ q hq _ _ _ =>
        obtain ⟨es', k1, k2⟩ := h.mapAt hq hm
        split at hl
        · rename_i e hc hf
          have hc := beq_t hc
          subst hc
          injection hl with hl; subst hl
          obtain ⟨e', q1, q2⟩ := find_rel (R := R) (fun b => b == stamp) (es := es.toList) (es' := es'.toList) (by simpa using k2.1) (fun i a b x y => k2.2 i a b (by simpa using x) (by simpa using y)) (e := e) (by simpa using hf)
          have q1' : es'.find? (fun e => e.born == stamp) = some e' := by simpa using q1
          refine ⟨.tuple #[e'.key, e'.val], ?_, tuple2 (by rw [← q2.2.1]; exact VRel.of_flat R q2.2.2.1) q2.2.2.2⟩
          simp only [Instr.entry, hz, Nat.add_zero, Sem.run_bind, run_getObj_at g1 (fun _ _ _ => by simp), Result.andThen_ok, hback, run_getObj_at k1 (fun _ _ _ => by simp)]
          simp [q1']
        · cases hl
      · cases hl
    · cases hl
  · cases hl

/-! ### copies and bytes -/
theorem lcopy_ok (hC : C.Ok P) {t ty : TypeId} {ts : Array TypeId} {d d' x x' r : Value} {H' : LH} (h : HRel R w0 H w) (hd : VRel R d d') (hx : VRel R x x') (ht : ts[0]? = some t) (hl : lcopy C H t d x = some (r, H')) :
    ∃ r' w', (Builtin.copy_ ts ty #[d', x']).run P w = .ok r' w' ∧ VRel R r r' ∧ HRel R w0 H' w' := by
  unfold lcopy at hl
  split at hl
  · rename_i e id off dl cap m hde hm
    have hdd := hC.desc _ _ hde
    split at hl
    · rename_i z size b c e' s' hi hat
      split at hl
      · rename_i news hnews
        split at hl
        · rename_i hb
          simp only [Bool.and_eq_true] at hb
          obtain ⟨⟨b1, b2⟩, b3⟩ := hb
          have b2 := Nat.le_of_ble_eq_true b2
          have b3 : (0 : Nat) < 1 := Nat.le_of_ble_eq_true b3
          injection hl with hl; injection hl with h1 h2; subst h1; subst h2
          obtain ⟨news', hn1, hn2⟩ := lcells_ok (P := P) h hx ⟨m, hm, Nat.min_le_left _ _⟩ hnews
          have hlen := llen_ok (P := P) hx hm w
          have hgo : ∀ (a : Addr) (cap' : Nat) (w' : World), (storeCells a news'.toList).run P w = .ok () w' → (Builtin.copy_ ts ty #[.slice (some a) dl cap', x']).run P w = .ok (goInt (Nat.min m dl)) w' := fun a cap' w' hst => by
            simp [Builtin.copy_, ht, run_underlying hdd, hlen, run_sizeD hC hi, hn1 w (fun _ => rfl), hst]
          cases hd with
          | @slice _ p hp _ _ _ cap' hn hc =>
            refine ⟨_, _, hgo _ _ _ (h.run_store P hp hat off hn2 b2 b1), .int _ _, h.write b3 hp hat off hn2 b2⟩
          | @empty _ p hp _ off' cap' hc =>
            have hz : Nat.min m 0 = 0 := Nat.min_zero m
            have hnil : news = [] := by
              rw [hz] at hnews
              unfold lcells at hnews
              split at hnews
              · injection hnews with hnews; exact hnews.symm
              · simp only at hnews; injection hnews with hnews; exact hnews.symm
              · injection hnews with hnews; subst hnews
                simp [bytesOf]
              · cases hnews
            subst hnil
            have hn0 : news' = #[] := Array.eq_empty_of_size_eq_zero (by have := hn2.1; simpa using this.symm)
            have hsp : splice c off [] = c := by simp [splice]
            refine ⟨_, w, hgo _ _ _ (by simp [hn0, storeCells]), .int _ _, ?_⟩
            rw [hsp]
            have hc0 := h.write b3 hp hat off (VRels.nil R) (by simpa using b2)
            rw [hsp] at hc0
            exact hc0
        · cases hl
      · cases hl
    · cases hl
  · cases hl
end
end Go.Proofs.YtiedaccgagnofaaGreat
