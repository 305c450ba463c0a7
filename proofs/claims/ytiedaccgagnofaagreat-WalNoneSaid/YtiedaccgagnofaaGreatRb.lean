/- Regions that draw their order: what the plan says. -/
import Derived.Test.YtiedaccgagnofaaGreatRa
namespace Go.Proofs.YtiedaccgagnofaaGreat
open Go.RowKit

/-! ### Bits -/
theorem lbit_test (m i : Nat) : lbit m i = m.testBit i := by
  unfold lbit Nat.testBit
  show Nat.beq ((m >>> i) &&& 1) 1 = (1 &&& (m >>> i) != 0)
  rw [Nat.and_comm 1, Nat.and_one_is_mod]
  rcases Nat.mod_two_eq_zero_or_one (m >>> i) with e | e <;> rw [e] <;> rfl
theorem lbit_lor (a b i : Nat) : lbit (a ||| b) i = (lbit a i || lbit b i) := by
  rw [lbit_test, lbit_test, lbit_test]; exact Nat.testBit_or a b i
theorem lbit_one (k i : Nat) : lbit (1 <<< k) i = decide (i = k) := by
  rw [lbit_test]
  rw [Nat.testBit_shiftLeft]
  by_cases h : i = k
  · subst h; simp
  · by_cases h2 : i ≥ k
    · have : (1 : Nat).testBit (i - k) = false := by
        have h3 : i - k = (i - k - 1) + 1 := by omega
        rw [h3, Nat.testBit_succ]; simp
      simp [h, this]
    · simp [h, h2]
theorem lbit_zero (i : Nat) : lbit 0 i = false := by rw [lbit_test]; simp

/-- The mask of an operation: its edges, and what is ahead of them. -/
theorem lbits_ok (es : List Ent) : ∀ (l : List Edge) (mask : Nat), lbits es l = some mask →
    (∀ e ∈ l, Region.binds .any e = true → ∃ x, es[e.on]? = some x ∧ lbit mask e.on = true ∧ ∀ j, lbit x.mask j = true → lbit mask j = true) ∧
    (∀ j, lbit mask j = true → ∃ e ∈ l, Region.binds .any e = true ∧ ∃ x, es[e.on]? = some x ∧ (j = e.on ∨ lbit x.mask j = true)) := by
  intro l
  induction l with
  | nil =>
    intro mask h
    simp only [lbits] at h
    injection h with h; subst h
    exact ⟨fun e he => by simp at he, fun j hj => by rw [lbit_zero] at hj; cases hj⟩
  | cons e l ih =>
    intro mask h
    simp only [lbits] at h
    split at h
    · rename_i hb
      obtain ⟨h1, h2⟩ := ih mask h
      refine ⟨fun e' he' hb' => ?_, fun j hj => ?_⟩
      · rcases List.mem_cons.1 he' with rfl | he'
        · rw [hb] at hb'; cases hb'
        · exact h1 e' he' hb'
      · obtain ⟨e', he', r⟩ := h2 j hj
        exact ⟨e', List.mem_cons_of_mem _ he', r⟩
    · rename_i hb
      split at h
      · rename_i x m hx hm
        injection h with h; subst h
        obtain ⟨h1, h2⟩ := ih m hm
        refine ⟨fun e' he' hb' => ?_, fun j hj => ?_⟩
        · rcases List.mem_cons.1 he' with rfl | he'
          · exact ⟨x, hx, by simp [lbit_lor, lbit_one], fun j hj => by simp [lbit_lor, hj]⟩
          · obtain ⟨y, g1, g2, g3⟩ := h1 e' he' hb'
            exact ⟨y, g1, by simp [lbit_lor, g2], fun j hj => by simp [lbit_lor, g3 j hj]⟩
        · have hj : lbit (1 <<< e.on ||| x.mask ||| m) j = true := hj
          simp only [lbit_lor, lbit_one, Bool.or_eq_true, decide_eq_true_eq] at hj
          rcases hj with (hj | hj) | hj
          · exact ⟨e, List.mem_cons_self, hb, x, hx, .inl hj⟩
          · exact ⟨e, List.mem_cons_self, hb, x, hx, .inr hj⟩
          · obtain ⟨e', he', r⟩ := h2 j hj
            exact ⟨e', List.mem_cons_of_mem _ he', r⟩
      · cases h

/-! ### Values that are the same -/
theorem lbytesEq_ok : ∀ (a b : List UInt8), lbytesEq a b = true → a = b
  | [], [], _ => rfl
  | [], _ :: _, h => by simp [lbytesEq] at h
  | _ :: _, [], h => by simp [lbytesEq] at h
  | x :: l, y :: m, h => by
    simp only [lbytesEq, Bool.and_eq_true] at h
    rw [lbytesEq_ok l m h.2, UInt8.toNat_inj.1 (beq_t h.1)]
theorem laddrEq_ok {a b : Addr} (h : laddrEq a b = true) : a = b := by
  unfold laddrEq at h
  split at h
  · simp only [Bool.and_eq_true] at h
    rw [beq_t h.1, beq_t h.2]
  · cases h
theorem lfloatEq_ok {a b : FloatKind} (h : lfloatEq a b = true) : a = b := by cases a <;> cases b <;> first | rfl | cases h
theorem veqs_ok {f : Value → Value → Bool} (hf : ∀ a b, f a b = true → a = b) : ∀ (xs ys : List Value), veqs f xs ys = true → xs = ys
  | [], [], _ => rfl
  | [], _ :: _, h => by simp [veqs] at h
  | _ :: _, [], h => by simp [veqs] at h
  | x :: l, y :: m, h => by
    simp only [veqs, Bool.and_eq_true] at h
    rw [hf x y h.1, veqs_ok hf l m h.2]
theorem veq_ok : ∀ (n : Nat) (a b : Value), veq n a b = true → a = b := by
  intro n
  induction n with
  | zero => intro a b h; simp [veq] at h
  | succ n ih =>
    intro a b h
    have arr : ∀ (xs ys : Array Value), veqs (veq n) xs.toList ys.toList = true → xs = ys := fun xs ys e => Array.toList_inj.1 (veqs_ok ih _ _ e)
    unfold veq at h
    split at h
    · rw [eq_of_beq h]
    · simp only [Bool.and_eq_true, decide_eq_true_eq] at h
      rw [kind_same h.1, h.2]
    · rename_i x y
      have := lbytesEq_ok _ _ h
      congr 1
      obtain ⟨x⟩ := x
      obtain ⟨y⟩ := y
      congr 1
      exact Array.toList_inj.1 this
    · simp only [Bool.and_eq_true] at h
      rw [lfloatEq_ok h.1, beq_t h.2]
    · rfl
    · rw [laddrEq_ok h]
    · simp only [Bool.and_eq_true] at h
      rw [beq_t h.1, beq_t h.2]
    · simp only [Bool.and_eq_true] at h
      rw [laddrEq_ok h.1.1, beq_t h.1.2, beq_t h.2]
    · rfl
    · rw [beq_t h]
    · rfl
    · rfl
    · simp only [Bool.and_eq_true] at h
      rw [beq_t h.1.1, arr _ _ h.1.2, arr _ _ h.2]
    · simp only [Bool.and_eq_true] at h
      rw [beq_t h.1, ih _ _ h.2]
    · rw [arr _ _ h]
    · rw [arr _ _ h]
    · cases h

/-- What changes nothing, changes nothing. -/
theorem lop_same {C : Ctx} {ρ : Operand → Value} {H H' : LH} {o : Oper} {x : LNext} (hk : lkind o.op = 0) (h : lop C ρ H o = some (x, H')) : H' = H := by
  have hv : ∀ {y : Option Value}, okv H y = some (x, H') → H' = H := fun {y} e => by
    unfold okv at e; split at e
    · injection e with e; injection e with _ e; exact e.symm
    · cases e
  have hf : lflat C.P ρ o H = some (x, H') → H' = H := fun e => by
    unfold lflat at e
    split at e
    · split at e
      · split at e
        · injection e with e; injection e with _ e; exact e.symm
        · cases e
      · cases e
    · cases e
  have hi : ∀ {v : Value} {y : Option (LNext × LH)}, ifFlat v y = some (x, H') → y = some (x, H') := fun {v y} e => by
    unfold ifFlat at e; split at e
    · exact e
    · cases e
  have hi? : ∀ {v : Option Value} {y : Option (LNext × LH)}, ifFlat? v y = some (x, H') → y = some (x, H') := fun {v y} e => by
    unfold ifFlat? at e; split at e
    · exact hi e
    · exact e
  have hp : ∀ {y : LNext}, some (y, H) = some (x, H') → H' = H := fun {y} e => by injection e with e; injection e with _ e; exact e.symm
  unfold lop at h
  split at h <;> first | (cases h; done) | skip
  all_goals rename_i eo
  all_goals rw [eo] at hk
  all_goals first | (simp [lkind] at hk; done) | skip
  · exact hp h
  · exact hp h
  · unfold lopPick at h; split at h
    · exact hp h
    · exact hp h
    · cases h
  · exact hv h
  · exact hv h
  · exact hv h
  · exact hv h
  · exact hv h
  · exact hv (hi h)
  · unfold lopIndex at h; split at h
    · exact hv (hi h)
    · split at h
      · exact hv h
      · cases h
    · cases h
  · unfold lopSlice at h; split at h
    · exact hv (hi? (hi? (hi? h)))
    · exact hv (hi? (hi? (hi? h)))
    · exact hf h
  · exact hv h
  · exact hv h
  · unfold lopFunc at h; split at h
    · exact hp h
    · cases h
  · unfold lopAssert at h; split at h
    · exact hv h
    · exact hf h
  · exact hv (hi h)
  · exact hv h
  · unfold lopBin at h; split at h
    · exact hp h
    · unfold lopBin2 at h; split at h
      · exact hf h
      · split at h
        · unfold lopEq at h; split at h
          · exact hp h
          · exact hf h
        · unfold lopEq at h; split at h
          · exact hp h
          · exact hf h
        · cases h
  · unfold lopConvert at h; split at h
    · split at h
      · exact hp h
      · exact hf h
    · split at h
      · split at h
        · split at h
          · exact hp h
          · cases h
        · cases h
      · exact hv h
    · exact hv h
    · exact hf h
  · unfold lopUn at h; split at h
    · exact hp h
    · exact hf h
  · rename_i c
    unfold lopCall at h
    split at h
    · rename_i b hb
      simp only [lkind, hb] at hk
      unfold lbuiltin at h
      split at h
      · simp at hk
      · unfold lopLen at h; split at h
        · exact hp h
        · exact hp h
        · split at h
          · exact hp h
          · cases h
        · exact hf h
      · simp at hk
      · simp at hk
      · simp at hk
      · exact hf h
    · rename_i f hb; simp [lkind, hb] at hk
    · rename_i f nm hb; simp [lkind, hb] at hk
end Go.Proofs.YtiedaccgagnofaaGreat
