/- The second run, with what follows handed on: calls, regions. -/
import Derived.Test.YtiedaccgagnofaaGreatKb
namespace Go.Proofs.YtiedaccgagnofaaGreat
open Go.RowKit

section
variable {β : Type}
noncomputable def kenter (C : Ctx) (call : LCall) (H : LH) (f : FuncId) (args : List Value) (K : Value → LH → Option β) : Option β :=
  match C.ext f with
  | some e => ko2 (e args H) K
  | none => match C.fn f with
    | some _ => ko2 (call f args H) K
    | none => none
noncomputable def kmethod (C : Ctx) (call : LCall) (H : LH) (r : Value) (name : String) (args : List Value) (K : Value → LH → Option β) : Option β :=
  match r with
  | .iface t v => match C.meth t name with
    | some f => kenter C call H f (v :: args) K
    | none => none
  | _ => none
noncomputable def kcallv (C : Ctx) (call : LCall) (round : LRound) (H : LH) (fv : Value) (args : List Value) (K : Value → LH → Option β) : Option β :=
  match fv with
  | .func (.func f) first captured => kenter C call H f (first.toList ++ (args ++ captured.toList)) K
  | .func (.yield l) first captured => match first.size, captured.size with
    | 0, 0 => match lloopAt H l with
      | some r => match Nat.beq args.length r.params.size with
        | true => ko2 (round l args H) K
        | false => none
      | none => none
    | _, _ => none
  | _ => none

noncomputable def kop (C : Ctx) (call : LCall) (round : LRound) (m : LMode) (ρ : Operand → Value) (D : List Deferred) (H : LH) (o : Oper) (K : Value → List Deferred → LH → Option β) : Option β :=
  match o.op with
  | .alloc e => ko2 (lalloc C.toTab H e) fun v H => K v D H
  | .box e x => ko2 (lnew H e (ρ x)) fun v H => K v D H
  | .buildSlice t n parts => ko2 (lbuildSlice C.toTab H t n (parts.toList.map fun p => (p.1, ρ p.2))) fun v H => K v D H
  | .store t a x => ko (lstore C.toTab H t (ρ a) (ρ x)) fun H' => K undef D H'
  | .makeMap _ none => ko2 (lmakeMap H) fun v H => K v D H
  | .makeSlice t l c => ko2 (ifFlat (ρ l) (ifFlat (ρ c) (lmakeSlice C.toTab H t (ρ l) (ρ c)))) fun v H => K v D H
  | .range t x => ko2 (lrange C.toTab H t (ρ x)) fun v H => K v D H
  | .next x false => ko2 (lnext H (ρ x)) fun v H => K v D H
  | .mapUpdate t mp k x => ko (ifFlat (ρ k) (lupdate C.toTab H t (ρ mp) (ρ k) (ρ x))) fun H' => K undef D H'
  | .call c => match c.callee with
    | .builtin b => match b, c.args.toList.map ρ, c.argTypes.toList with
      | .append, [x, y], [t, t2] => ko2 (lappend C.toTab H t t2 x y) fun v H => K v D H
      | .copy, [d, x], [t, _] => ko2 (lcopy C.toTab H t d x) fun v H => K v D H
      | .delete, [mp, k], [t, _] => ko (ifFlat k (ldelete C.toTab H t mp k)) fun H' => K (.tuple #[]) D H'
      | .recover, _, _ => match m with
        | .deferred => K .nilIface D H
        | _ => none
      | _, _, _ => kval C ρ H o fun v => K v D H
    | .value f => kcallv C call round H (ρ f) (c.args.toList.map ρ) fun v H' => K v D H'
    | .invoke r name => kmethod C call H (ρ r) name (c.args.toList.map ρ) fun v H' => K v D H'
  | .defer c => match c.callee with
    | .value f => match ρ f with
      | .func (.func g) first captured => match m with
        | .round _ => none
        | _ => K undef ({ target := .fn (.func g) captured, args := first ++ c.args.map ρ } :: D) H
      | _ => none
    | _ => none
  | _ => kval C ρ H o fun v => K v D H

/-- What became of an operation that is a value, a change, a call. -/
theorem lop1_value {C : Ctx} {call : LCall} {round : LRound} {m : LMode} {s : LS} {o : Oper} {v : Value} {H : LH} (h : lop C s.eval s.heap o = some (.value v, H)) : lop1 C call round m o s = some (v, s.defers, H) := by
  unfold lop1; rw [h]
theorem lop1_skip {C : Ctx} {call : LCall} {round : LRound} {m : LMode} {s : LS} {o : Oper} {H : LH} (h : lop C s.eval s.heap o = some (.skip, H)) : lop1 C call round m o s = some (undef, s.defers, H) := by
  unfold lop1; rw [h]

theorem kenter_ok {C : Ctx} {call : LCall} {round : LRound} {m : LMode} {s : LS} {o : Oper} {f : FuncId} {args : List Value} {K : Value → LH → Option β} {r : β} (hl : lop C s.eval s.heap o = lenter C s.heap f args.toArray)
    (h : kenter C call s.heap f args K = some r) : ∃ v H, lop1 C call round m o s = some (v, s.defers, H) ∧ K v H = some r := by
  unfold kenter at h
  unfold lenter at hl
  split at h
  · rename_i e he
    rw [he] at hl
    obtain ⟨⟨v, H⟩, h1, h2⟩ := ko2_ok h
    simp only [h1] at hl
    exact ⟨v, H, lop1_value hl, h2⟩
  · rename_i he
    rw [he] at hl
    split at h
    · rename_i fn hf
      obtain ⟨⟨v, H⟩, h1, h2⟩ := ko2_ok h
      simp only [hf] at hl
      exact ⟨v, H, by unfold lop1; rw [hl]; simp only [h1], h2⟩
    · cases h
theorem kmethod_ok {C : Ctx} {call : LCall} {round : LRound} {m : LMode} {s : LS} {o : Oper} {x : Value} {name : String} {args : Array Value} {K : Value → LH → Option β} {r : β} (hl : lop C s.eval s.heap o = lmethod C s.heap x name args)
    (h : kmethod C call s.heap x name args.toList K = some r) : ∃ v H, lop1 C call round m o s = some (v, s.defers, H) ∧ K v H = some r := by
  unfold kmethod at h
  split at h
  · rename_i t v
    split at h
    · rename_i f hf
      refine kenter_ok ?_ h
      rw [hl]
      simp only [lmethod, hf]
      congr 1
      apply Array.toList_inj.1
      simp
    · cases h
  · cases h
theorem kcallv_ok {C : Ctx} {call : LCall} {round : LRound} {m : LMode} {s : LS} {o : Oper} {x : Value} {args : Array Value} {K : Value → LH → Option β} {r : β} (hl : lop C s.eval s.heap o = lcallv C s.heap x args)
    (h : kcallv C call round s.heap x args.toList K = some r) : ∃ v H, lop1 C call round m o s = some (v, s.defers, H) ∧ K v H = some r := by
  unfold kcallv at h
  split at h
  · rename_i f first captured
    refine kenter_ok ?_ h
    rw [hl]
    simp only [lcallv]
    congr 1
    apply Array.toList_inj.1
    simp
  · rename_i l first captured
    split at h
    · rename_i h1 h2
      split at h
      · rename_i rl hr
        split at h
        · rename_i hb
          obtain ⟨⟨v, H⟩, g1, g2⟩ := ko2_ok h
          refine ⟨v, H, ?_, g2⟩
          have hl2 : lop C s.eval s.heap o = some (.round l args.toList, s.heap) := by
            rw [hl]
            have hb' : Nat.beq args.size rl.params.size = true := by simpa using hb
            simp only [lcallv, h1, h2, hr, hb']
          unfold lop1
          rw [hl2]
          simp only [g1]
        · cases h
      · cases h
    · cases h
  · cases h

theorem kop_ok {C : Ctx} (hC : C.toTab.Ok C.P) {call : LCall} {round : LRound} {m : LMode} {s : LS} {o : Oper} {K : Value → List Deferred → LH → Option β} {r : β} (h : kop C call round m s.eval s.defers s.heap o K = some r) :
    ∃ v D H, lop1 C call round m o s = some (v, D, H) ∧ K v D H = some r := by
  have fromv : kval C s.eval s.heap o (fun v => K v s.defers s.heap) = some r → ∃ v D H, lop1 C call round m o s = some (v, D, H) ∧ K v D H = some r := by
    intro h
    obtain ⟨v, h1, h2⟩ := kval_ok hC (fun _ => rfl) h
    exact ⟨v, _, _, lop1_value h1, h2⟩
  obtain ⟨dst, op, ty, pos, after, guard⟩ := o
  unfold kop at h
  cases op with
  | alloc e => obtain ⟨⟨v, H⟩, h1, h2⟩ := ko2_ok h; exact ⟨v, _, H, lop1_value (by simp only [lop, h1, okvh]), h2⟩
  | box e x => obtain ⟨⟨v, H⟩, h1, h2⟩ := ko2_ok h; exact ⟨v, _, H, lop1_value (by simp only [lop, h1, okvh]), h2⟩
  | buildSlice t n parts => obtain ⟨⟨v, H⟩, h1, h2⟩ := ko2_ok h; exact ⟨v, _, H, lop1_value (by simp only [lop, h1, okvh]), h2⟩
  | store t a x => obtain ⟨H, h1, h2⟩ := ko_ok h; exact ⟨_, _, H, lop1_skip (by simp only [lop, h1, oku]), h2⟩
  | makeMap t x =>
    cases x with
    | none => obtain ⟨⟨v, H⟩, h1, h2⟩ := ko2_ok h; exact ⟨v, _, H, lop1_value (by simp only [lop, h1, okvh]), h2⟩
    | some x => exact fromv h
  | makeSlice t l c =>
    obtain ⟨⟨v, H⟩, h1, h2⟩ := ko2_ok h
    refine ⟨v, _, H, lop1_value ?_, h2⟩
    simp only [lop, ifFlat] at h1 ⊢
    split at h1
    · split at h1
      · rw [h1]; rfl
      · cases h1
    · cases h1
  | range t x => obtain ⟨⟨v, H⟩, h1, h2⟩ := ko2_ok h; exact ⟨v, _, H, lop1_value (by simp only [lop, h1, okvh]), h2⟩
  | next x b =>
    cases b with
    | false => obtain ⟨⟨v, H⟩, h1, h2⟩ := ko2_ok h; exact ⟨v, _, H, lop1_value (by simp only [lop, h1, okvh]), h2⟩
    | true => exact fromv h
  | mapUpdate t mp k x =>
    obtain ⟨H, h1, h2⟩ := ko_ok h
    refine ⟨_, _, H, lop1_skip ?_, h2⟩
    simp only [lop, ifFlat] at h1 ⊢
    split at h1
    · rw [h1]; rfl
    · cases h1
  | call c =>
    simp only at h
    split at h
    · rename_i b hc
      split at h
      · rename_i x y t t2 hx ht
        obtain ⟨⟨v, H⟩, h1, h2⟩ := ko2_ok h
        exact ⟨v, _, H, lop1_value (by simp only [lop, lopCall, hc, lbuiltin, hx, ht, h1, okvh]), h2⟩
      · rename_i x y t t2 hx ht
        obtain ⟨⟨v, H⟩, h1, h2⟩ := ko2_ok h
        exact ⟨v, _, H, lop1_value (by simp only [lop, lopCall, hc, lbuiltin, hx, ht, h1, okvh]), h2⟩
      · rename_i x y t t2 hx ht
        obtain ⟨H, h1, h2⟩ := ko_ok h
        refine ⟨_, _, H, lop1_value ?_, h2⟩
        simp only [lop, lopCall, hc, lbuiltin, hx, ht, ifFlat] at h1 ⊢
        split at h1
        · rw [h1]
        · cases h1
      · cases m with
        | deferred =>
          refine ⟨_, _, _, ?_, h⟩
          unfold lop1
          simp only [lop, lopCall, hc, lbuiltin]
        | _ => cases h
      · exact fromv h
    · rename_i f hc
      obtain ⟨v, H, h1, h2⟩ := kcallv_ok (o := ⟨dst, .call c, ty, pos, after, guard⟩) (m := m) (x := s.eval f) (args := c.args.map s.eval) (K := fun v H => K v s.defers H) (r := r) (by show lopCall _ _ _ _ _ = _; unfold lopCall; rw [hc]) (by rw [Array.toList_map]; exact h)
      exact ⟨v, _, H, h1, h2⟩
    · rename_i x name hc
      obtain ⟨v, H, h1, h2⟩ := kmethod_ok (o := ⟨dst, .call c, ty, pos, after, guard⟩) (round := round) (m := m) (x := s.eval x) (name := name) (args := c.args.map s.eval) (K := fun v H => K v s.defers H) (r := r) (by show lopCall _ _ _ _ _ = _; unfold lopCall; rw [hc]) (by rw [Array.toList_map]; exact h)
      exact ⟨v, _, H, h1, h2⟩
  | defer c =>
    simp only at h
    split at h
    · rename_i f hc
      split at h
      · rename_i g first captured hf
        refine ⟨undef, { target := .fn (.func g) captured, args := first ++ c.args.map s.eval } :: s.defers, s.heap, ?_, ?_⟩
        · unfold lop1
          simp only [lop, lopDefer, hc, hf]
          cases m with
          | round l => cases h
          | _ => rfl
        · cases m with
          | round l => cases h
          | _ => exact h
      · cases h
    · cases h
  | _ => exact fromv h

theorem PT.set_same {α : Type} (f : Nat) (t : PT α) : ∀ (n : Nat) (v : α), t.get n = some v → PT.set f t n (some v) = t := by
  induction t with
  | nil => intro n v h; simp [PT.get_nil] at h
  | node l x r ihl ihr =>
    intro n v h
    rw [PT.get_node] at h
    rw [PT.set_node]
    split
    · rename_i e; rw [if_pos e] at h; rw [h]
    · rename_i e
      rw [if_neg e] at h
      split
      · rename_i e1; rw [if_pos e1] at h; rw [ihl _ _ h]
      · rename_i e1; rw [if_neg e1] at h; rw [ihr _ _ h]

/-- A tree laid over another one. -/
def PT.over {α : Type} : PT α → PT α → PT α
  | .nil, T => T
  | .node l v r, .nil => .node l v r
  | .node l v r, .node l' v' r' => .node (PT.over l l') (v.or v') (PT.over r r')
theorem PT.over_nil {α : Type} (t : PT α) : PT.over t .nil = t := by cases t <;> rfl
theorem PT.get_over {α : Type} (o : PT α) : ∀ (b : PT α) (n : Nat), (PT.over o b).get n = (o.get n).or (b.get n) := by
  induction o with
  | nil => intro b n; simp [PT.over, PT.get_nil]
  | node l v r ihl ihr =>
    intro b n
    cases b with
    | nil => simp [PT.over, PT.get_nil]
    | node l' v' r' =>
      simp only [PT.over, PT.get_node]
      split
      · rfl
      · split
        · exact ihl _ _
        · exact ihr _ _
theorem pow_half {n f : Nat} (h : n + 1 < 2 ^ (f + 1)) (h0 : n ≠ 0) : (n % 2 = 1 → n / 2 + 1 < 2 ^ f) ∧ (n % 2 ≠ 1 → n / 2 - 1 + 1 < 2 ^ f) := by
  have hp : 2 ^ (f + 1) = 2 * 2 ^ f := by rw [Nat.pow_succ]; omega
  have hp1 : 1 ≤ 2 ^ f := Nat.one_le_two_pow
  constructor <;> omega
theorem PT.fresh_fuel {α : Type} : ∀ (f g n : Nat) (a : Option α), n + 1 < 2 ^ f → n + 1 < 2 ^ g → PT.fresh f n a = PT.fresh g n a
  | 0, _, n, _, h, _ => by simp at h
  | f + 1, 0, n, _, _, h => by simp at h
  | f + 1, g + 1, n, a, h, h' => by
    rw [PT.fresh_succ, PT.fresh_succ]
    by_cases h0 : n = 0
    · rw [if_pos h0, if_pos h0]
    · rw [if_neg h0, if_neg h0]
      have p1 := pow_half h h0
      have p2 := pow_half h' h0
      by_cases h1 : n % 2 = 1
      · rw [if_pos h1, if_pos h1, PT.fresh_fuel f g _ a (p1.1 h1) (p2.1 h1)]
      · rw [if_neg h1, if_neg h1, PT.fresh_fuel f g _ a (p1.2 h1) (p2.2 h1)]
theorem PT.fresh_over {α : Type} (f : Nat) (a : α) (b : PT α) : ∀ (g n : Nat), n + 1 < 2 ^ g → n + 1 < 2 ^ f → PT.over (PT.fresh g n (some a)) b = PT.set f b n (some a) := by
  induction b with
  | nil => intro g n h h'; rw [PT.over_nil]; exact PT.fresh_fuel g f n _ h h'
  | node l v r ihl ihr =>
    intro g n h h'
    cases g with
    | zero => simp at h
    | succ g =>
      rw [PT.fresh_succ, PT.set_node]
      by_cases h0 : n = 0
      · rw [if_pos h0, if_pos h0]; rfl
      · rw [if_neg h0, if_neg h0]
        have p1 := pow_half h h0
        have hl : n / 2 + 1 ≤ n + 1 := by omega
        by_cases h1 : n % 2 = 1
        · rw [if_pos h1, if_pos h1, ← ihl g (n / 2) (p1.1 h1) (by omega)]; rfl
        · rw [if_neg h1, if_neg h1, ← ihr g (n / 2 - 1) (p1.2 h1) (by omega)]; rfl
theorem PT.set_over {α : Type} (f : Nat) (a : α) (o : PT α) : ∀ (b : PT α) (n : Nat), n + 1 < 2 ^ f → PT.over (PT.set f o n (some a)) b = PT.set f (PT.over o b) n (some a) := by
  induction o with
  | nil => intro b n h; exact PT.fresh_over f a b f n h h
  | node l v r ihl ihr =>
    intro b n h
    cases b with
    | nil => rw [PT.over_nil, PT.over_nil]
    | node l' v' r' =>
      rw [PT.set_node]
      simp only [PT.over]
      rw [PT.set_node]
      by_cases h0 : n = 0
      · rw [if_pos h0, if_pos h0]; rfl
      · rw [if_neg h0, if_neg h0]
        by_cases h1 : n % 2 = 1
        · rw [if_pos h1, if_pos h1, ← ihl _ _ (by omega)]; rfl
        · rw [if_neg h1, if_neg h1, ← ihr _ _ (by omega)]; rfl

/-- The state of an activation: what was put since, over what there was. -/
structure KS where
  over : PT Value
  base : PT Value
  defers : List Deferred
  heap : LH
noncomputable def keval (o b : PT Value) : Operand → Value
  | .tmp t => match o.get t with | some v => v | none => lk b t
  | .const v => v
  | .global _ => undef
  | .func f => .func (.func f) #[] #[]
noncomputable def kset (o : PT Value) (dst : Option Tmp) (v : Value) : PT Value :=
  match dst with
  | some d => o.set (d + 1) d (some v)
  | none => o
noncomputable def KS.up (s : KS) : LS := ⟨PT.over s.over s.base, s.defers, s.heap⟩
theorem keval_up (o b : PT Value) (D : List Deferred) (H : LH) : LS.eval ⟨PT.over o b, D, H⟩ = keval o b := by
  funext x
  cases x with
  | tmp t =>
    simp only [LS.eval, keval, PT.get_over, lk]
    cases o.get t <;> rfl
  | _ => rfl
theorem kset_up (o b : PT Value) (dst : Option Tmp) (v : Value) (D : List Deferred) (H : LH) : LS.put ⟨PT.over o b, D, H⟩ dst v = ⟨PT.over (kset o dst v) b, D, H⟩ := by
  cases dst with
  | none => rfl
  | some d =>
    show LS.mk _ _ _ = LS.mk _ _ _
    congr 1
    exact (PT.set_over (d + 1) v o b d (pow_ok d)).symm

/-- Is an operation wanted? What it is asked by is known behind. -/
noncomputable def kwant (ops : Array Oper) (T : PT Value) (o : Oper) (yes no : PT Value → Option β) : Option β :=
  match o.guard with
  | none => yes T
  | some (j, want) => match (ops[j]?).bind (·.dst) with
    | some t => match T.get t with
      | some v => match want with
        | true => kcond v (yes (T.set (t + 1) t (some (.bool true)))) (no (T.set (t + 1) t (some (.bool false))))
        | false => kcond v (no (T.set (t + 1) t (some (.bool true)))) (yes (T.set (t + 1) t (some (.bool false))))
      | none => none
    | none => none
theorem kwant_ok {ops : Array Oper} {T b : PT Value} {D : List Deferred} {H : LH} {o : Oper} {yes no : PT Value → Option β} {r : β} (h : kwant ops T o yes no = some r) :
    (lwanted ops ⟨PT.over T b, D, H⟩ o = true ∧ yes T = some r) ∨ (lwanted ops ⟨PT.over T b, D, H⟩ o = false ∧ no T = some r) := by
  unfold kwant at h
  unfold lwanted
  split at h
  · rename_i e; rw [e]; exact .inl ⟨rfl, h⟩
  · rename_i j want e
    rw [e]
    simp only
    split at h
    · rename_i t ht
      rw [ht]
      simp only
      split at h
      · rename_i v hv
        rw [PT.get_over, hv]
        simp only [Option.some_or]
        cases want with
        | true =>
          rcases kcond_ok h with ⟨e1, e2⟩ | ⟨e1, e2⟩
          · subst e1; rw [PT.set_same _ _ _ _ hv] at e2; exact .inl ⟨rfl, e2⟩
          · subst e1; rw [PT.set_same _ _ _ _ hv] at e2; exact .inr ⟨rfl, e2⟩
        | false =>
          rcases kcond_ok h with ⟨e1, e2⟩ | ⟨e1, e2⟩
          · subst e1; rw [PT.set_same _ _ _ _ hv] at e2; exact .inr ⟨rfl, e2⟩
          · subst e1; rw [PT.set_same _ _ _ _ hv] at e2; exact .inl ⟨rfl, e2⟩
      · cases h
    · cases h

noncomputable def kops (C : Ctx) (call : LCall) (round : LRound) (m : LMode) (ops : Array Oper) : List Oper → KS → (KS → Option β) → Option β
  | [], s, K => K s
  | o :: rest, s, K => kwant ops s.over o
    (fun T => kop C call round m (keval T s.base) s.defers s.heap o fun v D H => kops C call round m ops rest ⟨kset T o.dst v, s.base, D, H⟩ K)
    (fun T => kops C call round m ops rest ⟨kset T o.dst undef, s.base, s.defers, s.heap⟩ K)
theorem kops_ok {C : Ctx} (hC : C.toTab.Ok C.P) {call : LCall} {round : LRound} {m : LMode} {ops : Array Oper} {K : KS → Option β} {r : β} : ∀ (l : List Oper) (s : KS), kops C call round m ops l s K = some r → ∃ s', lops C call round m ops l s.up = some s'.up ∧ K s' = some r := by
  intro l
  induction l with
  | nil => intro s h; exact ⟨s, rfl, h⟩
  | cons o rest ih =>
    intro s h
    simp only [kops] at h
    simp only [lops]
    rcases kwant_ok (b := s.base) (D := s.defers) (H := s.heap) h with ⟨h1, h2⟩ | ⟨h1, h2⟩
    · rw [← keval_up s.over s.base s.defers s.heap] at h2
      obtain ⟨v, D, H, h3, h4⟩ := kop_ok hC (s := s.up) h2
      rw [show lwanted ops s.up o = true from h1]
      simp only [h3]
      obtain ⟨s', g1, g2⟩ := ih _ h4
      refine ⟨s', ?_, g2⟩
      rw [← g1]
      congr 1
      exact kset_up _ _ _ _ _ _
    · rw [show lwanted ops s.up o = false from h1]
      obtain ⟨s', g1, g2⟩ := ih _ h2
      refine ⟨s', ?_, g2⟩
      rw [← g1]
      simp only
      congr 1
      exact kset_up _ _ _ _ _ _

/-! ### Regions that draw their order -/
def Ent.up (b : PT Value) (e : Ent) : Ent := { e with tmps := PT.over e.tmps b }
def PS.up (b : PT Value) (st : PS) : PS := { st with es := st.es.map (Ent.up b), tmps := PT.over st.tmps b }
noncomputable def ksee (C : Ctx) (b : PT Value) (e : Ent) (H : LH) (k : Option β) : Option β := kval C (keval e.tmps b) H e.o fun v => ktest (veq 20 v e.val) k
theorem ksee_ok {C : Ctx} (hC : C.toTab.Ok C.P) {b : PT Value} {e : Ent} {H : LH} {k : Option β} {r : β} (h : ksee C b e H k = some r) : lsees C (e.up b) H = true ∧ k = some r := by
  obtain ⟨v, h1, h2⟩ := kval_ok hC (fun _ => rfl) h
  obtain ⟨h3, h4⟩ := ktest_ok h2
  refine ⟨?_, h4⟩
  unfold lsees
  simp only [Ent.up, keval_up]
  rw [h1]
  exact h3
noncomputable def kpair (C : Ctx) (b : PT Value) (ops : Array Oper) (gs : List (List Deferred × LH)) (G : LH) (e : Ent) (j : Nat) (x : Ent) (k : Option β) : Option β :=
  match lbit e.mask j with
  | true => k
  | false => match x.o.apart ops e.o with
    | false => none
    | true => match x.kind, e.kind with
      | .change _ _ _ _ _, .change _ _ _ _ _ => none
      | .read, .change _ _ _ _ _ => ksee C b x G k
      | .change q _ _ _ _, .read => match gs[q]? with
        | some g => ksee C b e g.2 k
        | none => none
      | _, _ => k
theorem kpair_ok {C : Ctx} (hC : C.toTab.Ok C.P) {b : PT Value} {ops : Array Oper} {gs : List (List Deferred × LH)} {G : LH} {e : Ent} {j : Nat} {x : Ent} {k : Option β} {r : β} (h : kpair C b ops gs G e j x k = some r) : lpair C ops gs G (e.up b) j (x.up b) = true ∧ k = some r := by
  unfold kpair at h
  unfold lpair
  simp only [Ent.up] at *
  split at h
  · rename_i e1; rw [e1]; exact ⟨rfl, h⟩
  · rename_i e1
    rw [e1]
    simp only
    split at h
    · cases h
    · rename_i e2
      rw [e2]
      simp only
      split at h
      · cases h
      · rename_i h1 h2; rw [h1, h2]; exact ksee_ok hC h
      · rename_i h1 h2
        rw [h1, h2]
        simp only
        split at h
        · rename_i g hg; rw [hg]; exact ksee_ok hC h
        · cases h
      · rename_i n1 n2 n3
        refine ⟨?_, h⟩
        split
        · exact absurd ‹_› (fun e => n1 _ _ _ _ _ _ _ _ _ _ ‹_› e)
        · exact absurd ‹_› (fun e => n2 _ _ _ _ _ ‹_› e)
        · exact absurd ‹_› (fun e => n3 _ _ _ _ _ ‹_› e)
        · rfl
noncomputable def kpairs (C : Ctx) (b : PT Value) (ops : Array Oper) (gs : List (List Deferred × LH)) (G : LH) (e : Ent) : Nat → List Ent → Option β → Option β
  | _, [], k => k
  | j, x :: l, k => kpair C b ops gs G e j x (kpairs C b ops gs G e (j + 1) l k)
theorem kpairs_ok {C : Ctx} (hC : C.toTab.Ok C.P) {b : PT Value} {ops : Array Oper} {gs : List (List Deferred × LH)} {G : LH} {e : Ent} {k : Option β} {r : β} : ∀ (l : List Ent) (j : Nat), kpairs C b ops gs G e j l k = some r → lpairs C ops gs G (e.up b) j (l.map (Ent.up b)) = true ∧ k = some r := by
  intro l
  induction l with
  | nil => intro j h; exact ⟨rfl, h⟩
  | cons x l ih =>
    intro j h
    simp only [kpairs] at h
    obtain ⟨h1, h2⟩ := kpair_ok hC h
    obtain ⟨h3, h4⟩ := ih _ h2
    exact ⟨by simp only [List.map_cons, lpairs, h1, h3], h4⟩

noncomputable def kadd (C : Ctx) (b : PT Value) (ops : Array Oper) (st : PS) (e : Ent) (K : PS → Option β) : Option β :=
  kpairs C b ops st.gs st.heap e 0 st.es (K { st with es := st.es ++ [e], tmps := kset st.tmps e.o.dst e.val })
noncomputable def kaddc (C : Ctx) (b : PT Value) (ops : Array Oper) (st : PS) (e : Ent) (D : List Deferred) (H : LH) (K : PS → Option β) : Option β :=
  kpairs C b ops st.gs H e 0 st.es (K { es := st.es ++ [e], gs := st.gs ++ [(D, H)], tmps := kset st.tmps e.o.dst e.val, defers := D, heap := H, last := e.mask })
/-- A row of parts. -/
noncomputable def lrow (C : Tab) (t : TypeId) (len : Nat) (parts : List (Nat × Value)) : Option LObj :=
  match C.desc t with
  | some (.slice e) => match C.info e with
    | some (z, n, _) => match Nat.ble (len * n) 65536 && Nat.blt 0 (len * n) with
      | true => match Instr.fill (fun i => some (i * n, n)) ((Array.range (len * n)).map (z.cells[· % z.cells.size]!)) parts with
        | some cs => some (.cells cs.toList e n)
        | none => none
      | false => none
    | none => none
  | _ => none
noncomputable def kfloat (C : Ctx) (ρ : Operand → Value) (o : Op) (K : (Nat → Value) → LObj → Option β) : Option β :=
  match o with
  | .alloc e => match C.info e with
    | some (z, _, _) => K (fun id => .pointer (some ⟨id, 0, none⟩)) (.cells z.cells.toList e 1)
    | none => none
  | .makeMap _ none => K (fun id => .map (some id)) (.obj (.map #[] 0))
  | .buildSlice t len parts => ko (lrow C.toTab t len (parts.toList.map fun p => (p.1, ρ p.2))) fun obj => K (fun id => .slice (some ⟨id, 0, none⟩) len len) obj
  | o => ko (lfloat C ρ o) fun p => K p.1 p.2
noncomputable def kstep (C : Ctx) (call : LCall) (round : LRound) (m : LMode) (b : PT Value) (ops : Array Oper) (base : Nat) (o : Oper) (st : PS) (K : PS → Option β) : Option β :=
  match lbits st.es o.after.toList with
  | none => none
  | some mask => kwant ops st.tmps o
    (fun T => match lkind o.op with
      | 0 => kval C (keval T b) st.heap o fun v => kadd C b ops { st with tmps := T } ⟨o, mask, T, v, .read⟩ K
      | 1 => kop C call round m (keval T b) st.defers (lputs base (lfls (some mask) st.last 0 st.es) st.heap) o fun v D H =>
        kaddc C b ops { st with tmps := T } ⟨o, mask, T, v, .change (st.gs.length - 1) st.last (lfls (some mask) st.last 0 st.es) D H⟩ D H K
      | _ => kfloat C (keval T b) o.op fun mk obj => kadd C b ops { st with tmps := T } ⟨o, mask, T, mk (base + st.es.length), .float obj⟩ K)
    (fun T => kadd C b ops { st with tmps := T } ⟨o, mask, T, undef, .skip⟩ K)
theorem lbits_up (b : PT Value) (es : List Ent) : ∀ (l : List Edge), lbits (es.map (Ent.up b)) l = lbits es l
  | [] => rfl
  | e :: l => by
    simp only [lbits, lbits_up b es l, List.getElem?_map]
    split
    · rfl
    · cases es[e.on]? <;> cases lbits es l <;> rfl
theorem lfls_up (b : PT Value) (mask : Option Nat) (last : Nat) : ∀ (j : Nat) (es : List Ent), lfls mask last j (es.map (Ent.up b)) = lfls mask last j es
  | _, [] => rfl
  | j, x :: l => by
    simp only [List.map_cons, lfls]
    rw [lfls_up b mask last (j + 1) l]
    rfl
theorem kadd_ok {C : Ctx} (hC : C.toTab.Ok C.P) {b : PT Value} {ops : Array Oper} {st : PS} {e : Ent} {K : PS → Option β} {r : β} (h : kadd C b ops st e K = some r) : ∃ st' : PS, ladd C ops (st.up b) (e.up b) = some (st'.up b) ∧ K st' = some r := by
  obtain ⟨h1, h2⟩ := kpairs_ok hC _ _ h
  refine ⟨_, ?_, h2⟩
  unfold ladd
  rw [show lpairs C ops (st.up b).gs (st.up b).heap (e.up b) 0 (st.up b).es = true from h1]
  simp only [PS.up, List.map_append, List.map_cons, List.map_nil]
  rw [show (e.up b).o.dst = e.o.dst from rfl, show (e.up b).val = e.val from rfl, kset_up]
theorem kaddc_ok {C : Ctx} (hC : C.toTab.Ok C.P) {b : PT Value} {ops : Array Oper} {st : PS} {e : Ent} {D : List Deferred} {H : LH} {K : PS → Option β} {r : β} (h : kaddc C b ops st e D H K = some r) : ∃ st' : PS, laddc C ops (st.up b) (e.up b) D H = some (st'.up b) ∧ K st' = some r := by
  obtain ⟨h1, h2⟩ := kpairs_ok hC _ _ h
  refine ⟨_, ?_, h2⟩
  unfold laddc
  rw [show lpairs C ops (st.up b).gs H (e.up b) 0 (st.up b).es = true from h1]
  simp only [PS.up, List.map_append, List.map_cons, List.map_nil]
  rw [show (e.up b).o.dst = e.o.dst from rfl, show (e.up b).val = e.val from rfl, kset_up]
  rfl
theorem kfloat_ok {C : Ctx} {ρ : Operand → Value} {o : Op} {K : (Nat → Value) → LObj → Option β} {r : β} (h : kfloat C ρ o K = some r) : ∃ mk obj, lfloat C ρ o = some (mk, obj) ∧ K mk obj = some r := by
  unfold kfloat at h
  split at h
  · rename_i e
    split at h
    · rename_i z _ _ hi; exact ⟨_, _, by simp only [lfloat, hi], h⟩
    · cases h
  · exact ⟨_, _, rfl, h⟩
  · rename_i t len parts
    obtain ⟨obj, h1, h2⟩ := ko_ok h
    refine ⟨_, _, ?_, h2⟩
    unfold lrow at h1
    simp only [lfloat]
    split at h1
    · rename_i e hd
      rw [hd]
      simp only
      split at h1
      · rename_i z n b hi
        rw [hi]
        simp only
        split at h1
        · rename_i hb
          rw [hb]
          simp only
          split at h1
          · rename_i cs hc; rw [hc]; injection h1 with h1; subst h1; rfl
          · cases h1
        · cases h1
      · cases h1
    · cases h1
  · obtain ⟨⟨mk, obj⟩, h1, h2⟩ := ko_ok h
    exact ⟨mk, obj, h1, h2⟩
theorem kstep_ok {C : Ctx} (hC : C.toTab.Ok C.P) {call : LCall} {round : LRound} {m : LMode} {b : PT Value} {ops : Array Oper} {base : Nat} {o : Oper} {st : PS} {K : PS → Option β} {r : β} (h : kstep C call round m b ops base o st K = some r) :
    ∃ st' : PS, lstep C call round m ops base o (st.up b) = some (st'.up b) ∧ K st' = some r := by
  unfold kstep at h
  unfold lstep
  rw [show lbits (st.up b).es o.after.toList = lbits st.es o.after.toList from lbits_up b st.es _]
  split at h
  · cases h
  · rename_i mask hm
    rw [hm]
    simp only
    rcases kwant_ok (b := b) (D := []) (H := st.heap) h with ⟨h1, h2⟩ | ⟨h1, h2⟩
    · rw [show lwanted ops ⟨(st.up b).tmps, [], (st.up b).heap⟩ o = true from h1]
      simp only at h2 ⊢
      split at h2
      · rename_i hk
        obtain ⟨v, g1, g2⟩ := kval_ok hC (fun _ => rfl) h2
        rw [hk]
        simp only
        rw [show lop C (LS.eval ⟨(st.up b).tmps, [], (st.up b).heap⟩) (st.up b).heap o = some (.value v, st.heap) by rw [← g1]; simp only [PS.up, keval_up]]
        exact kadd_ok hC g2
      · rename_i hk
        rw [← keval_up st.tmps b st.defers (lputs base (lfls (some mask) st.last 0 st.es) st.heap)] at h2
        obtain ⟨v, D, H, g1, g2⟩ := kop_ok hC (s := ⟨PT.over st.tmps b, st.defers, lputs base (lfls (some mask) st.last 0 st.es) st.heap⟩) h2
        rw [hk]
        obtain ⟨st', q1, q2⟩ := kaddc_ok hC g2
        refine ⟨st', ?_, q2⟩
        rw [← q1]
        simp only [lchange, PS.up, lfls_up, g1]
        rfl
      · rename_i n1 n2
        obtain ⟨mk, obj, g1, g2⟩ := kfloat_ok h2
        split
        · exact absurd ‹_› n1
        · exact absurd ‹_› n2
        · rw [show lfloat C (LS.eval ⟨(st.up b).tmps, [], (st.up b).heap⟩) o.op = some (mk, obj) by rw [← g1]; simp only [PS.up, keval_up]]
          obtain ⟨st', q1, q2⟩ := kadd_ok hC g2
          refine ⟨st', ?_, q2⟩
          rw [← q1]
          simp only [PS.up, Ent.up, List.length_map]
    · rw [show lwanted ops ⟨(st.up b).tmps, [], (st.up b).heap⟩ o = false from h1]
      exact kadd_ok hC h2
noncomputable def kplan (C : Ctx) (call : LCall) (round : LRound) (m : LMode) (b : PT Value) (ops : Array Oper) (base : Nat) : List Oper → PS → (PS → Option β) → Option β
  | [], st, K => K st
  | o :: l, st, K => kstep C call round m b ops base o st fun st' => kplan C call round m b ops base l st' K
theorem kplan_ok {C : Ctx} (hC : C.toTab.Ok C.P) {call : LCall} {round : LRound} {m : LMode} {b : PT Value} {ops : Array Oper} {base : Nat} {K : PS → Option β} {r : β} : ∀ (l : List Oper) (st : PS), kplan C call round m b ops base l st K = some r → ∃ st' : PS, lplan C call round m ops base l (st.up b) = some (st'.up b) ∧ K st' = some r := by
  intro l
  induction l with
  | nil => intro st h; exact ⟨st, rfl, h⟩
  | cons o l ih =>
    intro st h
    simp only [kplan] at h
    obtain ⟨st', h1, h2⟩ := kstep_ok hC h
    simp only [lplan, h1]
    exact ih _ h2
/-- A number of objects is set by. -/
noncomputable def LH.gap (H : LH) (n : Nat) : LH := ⟨H.objs, H.next + n⟩
noncomputable def kdraw (C : Ctx) (call : LCall) (round : LRound) (m : LMode) (ops : Array Oper) (s : KS) (K : KS → Option β) : Option β :=
  kplan C call round m s.base ops s.heap.next ops.toList ⟨[], [(s.defers, s.heap.gap ops.size)], s.over, s.defers, s.heap.gap ops.size, 0⟩ fun st =>
    K ⟨st.tmps, s.base, st.defers, lputs s.heap.next (lfls none st.last 0 st.es) st.heap⟩
theorem kdraw_ok {C : Ctx} (hC : C.toTab.Ok C.P) {call : LCall} {round : LRound} {m : LMode} {ops : Array Oper} {s : KS} {K : KS → Option β} {r : β} (h : kdraw C call round m ops s K = some r) : ∃ s' : KS, ldraw C call round m ops s.up = some s'.up ∧ K s' = some r := by
  obtain ⟨st, h1, h2⟩ := kplan_ok hC _ _ h
  refine ⟨_, ?_, h2⟩
  unfold ldraw
  simp only [LH.gap, PS.up, List.map_nil] at h1
  simp only [KS.up]
  rw [h1]
  simp only [lfls_up]
  rfl
end
end Go.Proofs.YtiedaccgagnofaaGreat
