/- One operation of a region, in the second run and in the program; regions in the text's order. -/
import Derived.Test.YtiedaccgagnofaaGreatS
namespace Go.Proofs.YtiedaccgagnofaaGreat
open Go.RowKit

/-- What is known of calls, deferred calls and rounds of the second run. -/
def CallOk (C : Ctx) (call : LCall) : Prop := ∀ (f : FuncId) (args : List Value) (H : LH) (v : Value) (H' : LH), call f args H = some (v, H') →
  ∀ (R : Ren) (w0 : Fr) (w : World) (args' : Array Value), HRel R w0 H w → VRels R args args'.toList →
    Calls C.P f args' w fun
      | .returned v', w' => ∃ R', R.le R' ∧ VRel R' v v' ∧ HRel R' w0 H' w'
      | _, _ => False
def DCallOk (C : Ctx) (dcall : LDCall) : Prop := ∀ (f : FuncId) (args : List Value) (H : LH) (H' : LH), dcall f args H = some H' →
  ∀ (R : Ren) (w0 : Fr) (w : World) (args' : Array Value), HRel R w0 H w → VRels R args args'.toList →
    CallsDIn Fence.wide 0 C.P f args' .returning w fun
      | .returned _, u', w' => u' = .returning ∧ ∃ R', R.le R' ∧ HRel R' w0 H' w'
      | _, _, _ => False
def RoundOk (C : Ctx) (round : LRound) : Prop := ∀ (l : Nat) (args : List Value) (H : LH) (v : Value) (H' : LH), round l args H = some (v, H') →
  ∀ (R : Ren) (w0 : Fr) (w : World) (args' : Array Value) (p : Place) (r : Loop), HRel R w0 H w → VRels R args args'.toList → R l = some p → w.heap[p.block]? = some (.loop r) → args'.size = r.params.size →
    RoundIn Fence.wide 0 C.P p.block r.fn (roundTmps r args') r.assign r.body w fun
      | .returned v', w' => ∃ R', R.le R' ∧ VRel R' v v' ∧ HRel R' w0 H' w'
      | _, _ => False

section
variable {C : Ctx} (hC : C.Sound) {call : LCall} {round : LRound} (hcall : CallOk C call) (hround : RoundOk C round)
 include hC hcall hround

theorem lop1_ok {R : Ren} {F : Fr} {m : LMode} {o : Oper} {s : LS} {a : Act} {w : World} {v : Value} {D : List Deferred} {H : LH} (h : HRel R F s.heap w)
    (ho : ∀ x ∈ o.op.operands, VRel R (s.eval x) (a.eval x)) (hd : DRels R s.defers a.defers) (hl : lop1 C call round m o s = some (v, D, H)) (K : Act → World → Prop)
    (hK : ∀ R' d' w' v', R.le R' → HRel R' F H w' → VRel R' v v' → DRels R' D d' → K (({ a with defers := d' } : Act).put o.dst v') w') :
    UponW C.P m o a K ((execOp a.eval o).run C.P w) := by
  unfold lop1 at hl
  split at hl
  · rename_i u G hlop
    injection hl with hl; injection hl with h1 hl; injection hl with h2 h3; subst h1; subst h2; subst h3
    obtain ⟨R', w', y, g1, g2, g3, g4⟩ := lop_ok hC h ho hlop
    rw [g1]
    cases g4 with
    | value hv => exact hK R' _ w' _ g2 g3 hv (hd.mono g2)
  · rename_i G hlop
    injection hl with hl; injection hl with h1 hl; injection hl with h2 h3; subst h1; subst h2; subst h3
    obtain ⟨R', w', y, g1, g2, g3, g4⟩ := lop_ok hC h ho hlop
    rw [g1]
    cases g4 with
    | skip => exact hK R' _ w' _ g2 g3 (undef_rel R') (hd.mono g2)
  · rename_i d G hlop
    have hm : (∀ l, m ≠ .round l) ∧ some (undef, d :: s.defers, G) = some (v, D, H) := by
      cases m with
      | round l => simp at hl
      | plain => exact ⟨fun l e => by simp at e, hl⟩
      | deferred => exact ⟨fun l e => by simp at e, hl⟩
    obtain ⟨hm, hl⟩ := hm
    injection hl with hl; injection hl with h1 hl; injection hl with h2 h3; subst h1; subst h2; subst h3
    obtain ⟨R', w', y, g1, g2, g3, g4⟩ := lop_ok hC h ho hlop
    rw [g1]
    cases g4 with
    | defer hd' => exact ⟨hm, hK R' _ w' _ g2 g3 (undef_rel R') (.cons hd' (hd.mono g2))⟩
  · rename_i G hlop
    have hm : m = .deferred ∧ some (Value.nilIface, s.defers, G) = some (v, D, H) := by
      cases m with
      | round l => simp at hl
      | plain => simp at hl
      | deferred => exact ⟨rfl, hl⟩
    obtain ⟨hm, hl⟩ := hm
    injection hl with hl; injection hl with h1 hl; injection hl with h2 h3; subst h1; subst h2; subst h3
    obtain ⟨R', w', y, g1, g2, g3, g4⟩ := lop_ok hC h ho hlop
    rw [g1]
    cases g4 with
    | recover => exact ⟨hm, hK R' _ w' _ g2 g3 (.nilIface) (hd.mono g2)⟩
  · rename_i f args G hlop
    obtain ⟨R', w', y, g1, g2, g3, g4⟩ := lop_ok hC h ho hlop
    rw [g1]
    split at hl
    · rename_i u H1 hc
      injection hl with hl; injection hl with h1 hl; injection hl with h2 h3; subst h1; subst h2; subst h3
      cases g4 with
      | enter _ hargs =>
        refine Calls.mono (hcall f args G u H1 hc R' F w' _ g3 hargs) fun e w'' he => ?_
        cases e with
        | returned v' =>
          obtain ⟨R'', k1, k2, k3⟩ := he
          exact hK R'' _ w'' _ (Ren.le_trans g2 k1) k3 k2 (hd.mono (Ren.le_trans g2 k1))
        | panicked c => exact he
        | outgrown => exact he
    · cases hl
  · rename_i l args G hlop
    obtain ⟨R', w', y, g1, g2, g3, g4⟩ := lop_ok hC h ho hlop
    rw [g1]
    split at hl
    · rename_i u H1 hc
      injection hl with hl; injection hl with h1 hl; injection hl with h2 h3; subst h1; subst h2; subst h3
      cases g4 with
      | round k1 k2 k3 k4 =>
        refine RoundIn.mono (hround l args G u H1 hc R' F w' _ _ _ g3 k3 k1 k2 k4) fun e w'' he => ?_
        cases e with
        | returned v' =>
          obtain ⟨R'', k1, k2, k3⟩ := he
          exact hK R'' _ w'' _ (Ren.le_trans g2 k1) k3 k2 (hd.mono (Ren.le_trans g2 k1))
        | panicked c => exact he
        | outgrown => exact he
    · cases hl
  · cases hl

 omit hC hcall hround in
theorem all_mem {α : Type} {p : α → Bool} {xs : Array α} (h : xs.toList.all p = true) : ∀ x ∈ xs, p x = true := fun x hx => List.all_eq_true.1 h x (by simpa using hx)

/-- A region in the text's order: its steps. -/
theorem lops_ok {n : Nat} {m : LMode} {ops : Array Oper} {b : Frame} {k : List Item} {cs : List Frame} {F : Fr} : ∀ (l : List Nat) (os : List Oper) (s s' : LS) (R : Ren) (a : Act) (w : World),
    l.map (fun i => ops[i]?) = os.map some → os.all (operOk n) = true → Good R m b cs → HRel R F s.heap w → ARel R n s a → lops C call round m ops os s = some s' →
    ∃ R' a' w', R.le R' ∧ HRel R' F s'.heap w' ∧ ARel R' n s' a' ∧ Steps C.P (lone (b.atR a (.inRegion ops l :: k)) cs w) (lone (b.atR a' k) cs w') := by
  intro l
  induction l with
  | nil =>
    intro os s s' R a w hl hok hg h ha hr
    cases os with
    | nil =>
      simp only [lops] at hr
      injection hr with hr; subst hr
      exact ⟨R, a, w, Ren.le_refl R, h, ha, .one stepR_region_end⟩
    | cons o os => simp at hl
  | cons i l ih =>
    intro os s s' R a w hl hok hg h ha hr
    cases os with
    | nil => simp at hl
    | cons o os =>
      simp only [List.map_cons, List.cons.injEq] at hl
      obtain ⟨ho, hl⟩ := hl
      simp only [List.all_cons, Bool.and_eq_true] at hok
      obtain ⟨hok1, hok⟩ := hok
      have hdst : dstOk n o.dst = true ∧ o.op.operands.toList.all operandOk = true := by simpa [operOk] using hok1
      simp only [lops] at hr
      rw [ha.wanted ops o] at hr
      cases hw : Region.wanted o (yielded ops a.tmps) with
      | false =>
        rw [hw] at hr
        have hs := stepR_op_skip (P := C.P) (b := b) (a := a) (k := k) (cs := cs) (w := w) (ops := ops) (i := i) (rest := l) (by simp [ho, hw])
        simp only [ho, Option.bind_some] at hs
        obtain ⟨R', a', w', g1, g2, g3, g4⟩ := ih os _ s' R _ w hl hok hg (by cases hd : o.dst <;> exact h) (ha.put hdst.1 (undef_rel R)) hr
        exact ⟨R', a', w', g1, g2, g3, .head hs g4⟩
      | true =>
        rw [hw] at hr
        simp only at hr
        split at hr
        · rename_i v D H hl1
          have hu := lop1_ok hC hcall hround (m := m) h (fun x hx => ha.eval (all_mem hdst.2 x hx)) ha.defers hl1
            (fun a' w' => ∃ R', R.le R' ∧ HRel R' F H w' ∧ ARel R' n (LS.put ⟨s.tmps, D, H⟩ o.dst v) a')
            (fun R' d' w' v' k1 k2 k3 k4 => ⟨R', k1, k2, ARel.put (s := ⟨s.tmps, D, H⟩) (a := { a with defers := d' }) ⟨ha.tmps.mono k1, ha.size, k4, ha.few⟩ hdst.1 k3⟩)
          obtain ⟨a1, w1, ⟨R1, g1, g2, g3⟩, g4⟩ := op_steps (rest := l) (k := k) hg ho hw hu
          obtain ⟨R', a', w', k1, k2, k3, k4⟩ := ih os _ s' R1 a1 w1 hl hok (hg.mono g1) (by cases hd : o.dst <;> exact g2) g3 hr
          exact ⟨R', a', w', Ren.le_trans g1 k1, k2, k3, Steps.trans g4 k4⟩
        · cases hr
end
end Go.Proofs.YtiedaccgagnofaaGreat
