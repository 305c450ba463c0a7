/- The walks of raise, front, bytes.Equal. -/
import Derived.Test.YtemllidcnamlmaaWa
namespace Go.Proofs.Ytemllidcnamlmaa
open Go.RowKit
theorem St.set {w : World} {B s : Nat} {m m' : MS} {rv : Value} {vs : List Value} (h : St w B s m rv vs) (i : Nat) (u : Value)
    (e : (cells m rv).setIfInBounds i u = cells m' rv) (hr : m'.recs = m.recs) : St (w.setCell ⟨s, i, none⟩ u) B s m' rv vs :=
  h.turn (fun k _ hk => Below.heap_setCell _ _ _ _ hk) (by simp [World.setCell]) (by rw [← e]; exact h.blk.set_ i u) hr
theorem St.alloc {w : World} {B s : Nat} {m : MS} {rv : Value} {vs : List Value} (h : St w B s m rv vs) (o : Obj) : St (w.alloc o) B s m rv vs :=
  h.turn (fun k hk _ => Below.heap_alloc _ _ _ hk) (by simp) (h.blk.alloc o) rfl
theorem St.drew {w : World} {B s : Nat} {m : MS} {rv : Value} {vs : List Value} (h : St w B s m rv vs) : St w.drew B s m rv vs :=
  h.turn (fun _ _ _ => rfl) (Nat.le_refl _) h.blk.drew rfl
theorem St.drewN {w : World} {B s : Nat} {m : MS} {rv : Value} {vs : List Value} (h : St w B s m rv vs) (n : Nat) : St (w.drewN n) B s m rv vs :=
  h.turn (fun _ _ _ => rfl) (Nat.le_refl _) (h.blk.drewN n) rfl

theorem raise_any (w : World) (B s : Nat) (m : MS) (rv : Value) (vs : List Value) (n : Int) (h : St w B s m rv vs) :
    Calls Try.prog 27 #[.pointer (some ⟨s, 0, none⟩), .int .i64 n] w (Post B s rv w (m.raise n)) := by
  have c2 := h.blk.cell 2
  have c4 := h.blk.cell 4
  have f2 := h.blk.frozen 2
  simp [cells] at c2 c4
  by_cases hn : n ≤ m.limit
  · have hp : m.raise n = some { m with durable := max m.durable n } := if_pos hn
    rw [hp]
    have H := hide h
    clear h hp
    go_enter Try.func27, Try.ntmps27
    go_wp2_with (go_at_call 14; refine (may_true _).mono ?_; rintro e w' ⟨rfl, rfl⟩)
    · go_end0
      exact .go ((Chg.refl _ _ _).setCell (.inl rfl) _) rfl rfl (H.out.set 2 _ (by simp [cells]; omega) rfl) (fun k hk => .inl hk.symm)
    · go_end0
      exact .go ((Chg.refl _ _ _).setCell (.inl rfl) _) rfl rfl (H.out.set 2 _ (by simp [cells]; omega) rfl) (fun k hk => .inl hk.symm)
  · have hp : m.raise n = none := if_neg hn
    rw [hp]
    have H := hide h
    clear h hp
    go_enter Try.func27, Try.ntmps27
    go_wp2_with (go_at_call 14; refine (may_false _).mono ?_; rintro e w' ⟨rfl, rfl⟩)
    exact ⟨rfl, .stop (.refl _ _ _) rfl rfl⟩

theorem front_any (w : World) (B s : Nat) (m : MS) (rv : Value) (vs : List Value) (n : Int) (h : St w B s m rv vs) :
    Calls Try.prog 22 #[.pointer (some ⟨s, 0, none⟩), .int .i64 n] w (Post B s rv w (m.front n)) := by
  have c3 := h.blk.cell 3
  have H := hide h
  simp [cells] at c3
  by_cases hn : n ≤ m.next
  · cases hr : m.raise n with
    | none =>
      have hp : m.front n = none := by unfold MS.front; rw [if_pos hn, hr]; rfl
      rw [hp]
      have R := hide hr
      clear h hp hr
      go_enter Try.func22, Try.ntmps22
      go_wp2_with (first
        | (go_at_call 14; refine (may_true _).mono ?_; rintro e w' ⟨rfl, rfl⟩)
        | (go_at_call 27; refine (raise_any _ _ _ _ _ _ _ H.out).mono ?_; rintro e w' ⟨hc, hs, hg⟩; obtain rfl := hs R.out))
      exact ⟨rfl, .stop hc rfl rfl⟩
    | some k =>
      have hp : m.front n = some { k with first := n } := by unfold MS.front; rw [if_pos hn, hr]; rfl
      rw [hp]
      have R := hide hr
      clear h hp hr
      go_enter Try.func22, Try.ntmps22
      go_wp2_with (first
        | (go_at_call 14; refine (may_true _).mono ?_; rintro e w' ⟨rfl, rfl⟩)
        | (go_at_call 27; refine (raise_any _ _ _ _ _ _ _ H.out).mono ?_; rintro e w1 ⟨hc, _, hg⟩; obtain ⟨rfl, rv1, vs1, h1, hr1⟩ := hg _ R.out; clear hg
           have f1 := h1.blk.frozen 1; have d1 := h1.blk.cell 1; simp [cells] at d1; have H1 := hide h1; have HC := hide hc; have HR := hide hr1; clear h1 hc hr1))
      go_end0
      exact .go (HC.out.setCell (.inl rfl) _) rfl rfl (H1.out.set 1 _ (by simp [cells]) rfl) HR.out
  · have hp : m.front n = none := if_neg hn
    rw [hp]
    clear h hp
    go_enter Try.func22, Try.ntmps22
    go_wp2_with (go_at_call 14; refine (may_false _).mono ?_; rintro e w' ⟨rfl, rfl⟩)
    exact ⟨rfl, .stop (.refl _ _ _) rfl rfl⟩

/-- A slice that reads as the bytes l, from below block B. -/
def Byt (w : World) (B : Nat) (A : Option Addr) (n c : Nat) (l : List Int) : Prop := Reads w B 1 A n (l.map (Value.int .u8)) ∧ n ≤ c

theorem run_str (w : World) (B : Nat) (A : Option Addr) (n c : Nat) (l : List Int) (h : Byt w B A n c l) :
    (convert 30 9 (.slice A n c)).run Try.prog w = .ok (.string (strOfNums l)) w := by
  obtain ⟨⟨hl, hc⟩, _⟩ := h
  simp at hl
  have hload : ∀ (a : Addr), A = some a → (loadCells a n).run Try.prog w = .ok (l.map (Value.int .u8)).toArray w := by
    intro a ha
    have := run_loadCells_list (P := Try.prog) w a (l.map (Value.int .u8)) (fun j v hj => by
      have hjl : j < l.length := by
        rcases Nat.lt_or_ge j l.length with h | h
        · exact h
        · simp [List.getElem?_eq_none (show (l.map (Value.int .u8)).length ≤ j by simpa using h)] at hj
      obtain ⟨ad, e, _, hcell⟩ := hc (by omega)
      rw [ha] at e
      injection e with e
      subst e
      exact hcell j v hj)
    simpa [hl] using this
  rw [run_convert_bytes_string w 30 9 5 _ n c Try.underlying30 Try.underlying5 Try.underlying9]
  cases A with
  | none =>
    have hn : n = 0 := by
      rcases Nat.eq_zero_or_pos n with h0 | h0
      · exact h0
      · obtain ⟨_, e, _⟩ := hc h0; cases e
    subst hn
    have : l = [] := List.eq_nil_of_length_eq_zero hl
    subst this
    simp [Conv.bytesToString]
    rfl
  | some a =>
    rw [run_bytesToString w _ n c l (hload a rfl), foldl_push_bytes]
    simp [strOfNums, ByteArray.empty, ByteArray.emptyWithCapacity]
    rfl

theorem equal_any (w : World) (B B' : Nat) (A A' : Option Addr) (n c n' c' : Nat) (l l' : List Int) (h : Byt w B A n c l) (h' : Byt w B' A' n' c' l') :
    Calls Try.prog 18 #[.slice A n c, .slice A' n' c'] w fun e w' => e = .returned (.bool (eqB l l')) ∧ w = w' := by
  have k := run_str w B A n c l h
  have k' := run_str w B' A' n' c' l' h'
  clear h h'
  go_enter Try.func18, Try.ntmps18
  go_wp2
  go_ret
  exact ⟨rfl, rfl⟩
end Go.Proofs.Ytemllidcnamlmaa
