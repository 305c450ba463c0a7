/- What a call comes to: loops, ranges over functions, what is deferred. -/
import Derived.Test.YtiedaccgagnofaaGreatKe
namespace Go.Proofs.YtiedaccgagnofaaGreat
open Go.RowKit

section
variable {β γ : Type} {Q : β → γ → Prop}
/-! ### Temporaries -/
theorem lk_hit {o b : PT Value} {t : Nat} {v : Value} (h : o.get t = some v) : lk (PT.over o b) t = v := by
  unfold lk; rw [PT.get_over, h]; rfl
theorem lk_miss {o b : PT Value} {t : Nat} (h : o.get t = none) : lk (PT.over o b) t = lk b t := by
  unfold lk; rw [PT.get_over, h]; rfl

theorem lk_of {T0 T : PT Value} {t : Nat} {v : Value} (h : T0 = T) (hv : T.get t = some v) : lk T0 t = v := by
  subst h; unfold lk; rw [hv]
theorem ev_state {f : LS → Option (LExit × LS)} {Q : LExit → LS → Prop} {n : Nat} {T : PT Value} {D : List Deferred} {H : LH} (k : ∀ s : LS, s.tmps = T → s.defers = D → s.heap = H → Ev (literate f n s) Q) : Ev (literate f n ⟨T, D, H⟩) Q := k _ rfl rfl rfl

/-! ### What is held -/
theorem ev_helds {C : Ctx} {dcall : LDCall} {f : LH → Option (β × γ)} : ∀ (rs : List Nat) (H : LH), rs.Nodup → (∀ r, r ∈ rs → H.at r = some .held) → (∀ H', (∀ j, j ∉ rs → H'.at j = H.at j) → H'.next = H.next → Ev (f H') Q) →
    Ev (kdefers C dcall (rs.map fun r => ⟨.collected r, #[]⟩) H f) Q
  | [], H, _, _, k => k H (fun _ _ => rfl) rfl
  | r :: rs, H, hn, hh, k => by
    obtain ⟨h1, h2⟩ := List.nodup_cons.1 hn
    show Ev (kdefer1 C dcall ⟨.collected r, #[]⟩ H fun H' => kdefers C dcall (rs.map fun r => ⟨.collected r, #[]⟩) H' f) Q
    unfold kdefer1 kheld
    simp only [hh r (by simp)]
    refine ev_helds rs (H.put r none) h2 (fun r' hr' => ?_) fun H' ha hx => k H' (fun j hj => ?_) hx
    · rw [at_put_ne (fun e => by subst e; exact h1 hr')]; exact hh r' (by simp [hr'])
    · simp only [List.mem_cons, not_or] at hj
      rw [ha j hj.2, at_put_ne hj.1]
/-! ### Ways out -/
theorem ev_exit_hit {id : Nat} {a b : Option (β × γ)} (k : Ev a Q) : Ev (kexit (.exit id) id a b) Q := by
  unfold kexit
  have : Nat.beq id id = true := by simp
  simp only [this]; exact k
theorem ev_exit_miss {i id : Nat} {a b : Option (β × γ)} (h : Nat.beq i id = false) (k : Ev b Q) : Ev (kexit (.exit i) id a b) Q := by
  unfold kexit
  simp only [h]; exact k
theorem ev_exit_ret {id : Nat} {a b : Option (β × γ)} (k : Ev b Q) : Ev (kexit .ret id a b) Q := k
theorem ev_kret {a : Option (β × γ)} (k : Ev a Q) : Ev (kret .ret a) Q := k
theorem ev_knormal {a b : Option (β × γ)} (k : Ev a Q) : Ev (knormal .normal a b) Q := k
theorem ev_knormal_ret {a b : Option (β × γ)} (k : Ev b Q) : Ev (knormal .ret a b) Q := k
theorem ev_knormal_exit {i : Nat} {a b : Option (β × γ)} (k : Ev b Q) : Ev (knormal (.exit i) a b) Q := k
theorem ev_defers_nil {C : Ctx} {dcall : LDCall} {H : LH} {f : LH → Option (β × γ)} (k : Ev (f H) Q) : Ev (kdefers C dcall [] H f) Q := k
theorem ev_held {C : Ctx} {dcall : LDCall} {H : LH} {r : Nat} {args : Array Value} {f : LH → Option (β × γ)} (h : H.at r = some .held) (k : Ev (f (H.put r none)) Q) : Ev (kdefer1 C dcall ⟨.collected r, args⟩ H f) Q := by
  unfold kdefer1 kheld
  simp only [h]
  exact k

/-! ### Loops -/
section
variable {f : LS → Option (LExit × LS)} {Q : LExit → LS → Prop}
theorem ev_unroll {n : Nat} {s : LS} (h : Ev (f s) fun e s' => (e = .normal → Ev (literate f n s') Q) ∧ (e ≠ .normal → Q e s')) : Ev (literate f (n + 1) s) Q := by
  obtain ⟨e, s', h1, h2, h3⟩ := h
  unfold literate
  rw [h1]
  cases e with
  | normal => exact h2 rfl
  | exit i => exact ⟨_, _, rfl, h3 (by simp)⟩
  | ret => exact ⟨_, _, rfl, h3 (by simp)⟩
/-- A loop: what holds ahead of each round, what goes down in each. -/
theorem ev_loop (I : LS → Prop) (m : LS → Nat) (step : ∀ s, I s → Ev (f s) fun e s' => (e = .normal → I s' ∧ m s' < m s) ∧ (e ≠ .normal → Q e s')) : ∀ (n : Nat) (s : LS), I s → m s < n → Ev (literate f n s) Q
  | 0, _, _, h => absurd h (by omega)
  | n + 1, s, hi, hm => by
    refine ev_unroll (Ev.mono (step s hi) fun e s' h => ⟨fun he => ?_, h.2⟩)
    have := h.1 he
    exact ev_loop I m step n s' this.1 (by omega)
end

/-! ### A range over a function that tells nothing -/
theorem ev_range_none {C : Ctx} {call : LCall} {round : LRound} {g : Operand} {ps : Array Tmp} {a b : Code} {s : LS} {f : FuncId} {fn : Func} {first captured : Array Value} {v : Value} {H' : LH} {K : LExit → LS → Option (β × γ)}
    (hg : s.eval g = .func (.func f) first captured) (he : C.ext f = none) (hf : C.fn f = some fn)
    (hc : call f (first.toList ++ (Value.func (.yield (s.heap.next + 1)) #[] #[] :: captured.toList)) ((s.heap.new .held).new (.loop ⟨.ready, none, s.tmps, ps, a, b, s.heap.next⟩)) = some (v, H'))
    (hl : H'.at (s.heap.next + 1) = some (.loop ⟨.ready, none, s.tmps, ps, a, b, s.heap.next⟩))
    (k : Ev (K .normal ⟨s.tmps, ⟨.collected s.heap.next, #[]⟩ :: s.defers, H'.put (s.heap.next + 1) (some (.loop ⟨.exhausted, none, s.tmps, ps, a, b, s.heap.next⟩))⟩) Q) :
    Ev (ko2 (lcode C call round .plain (.rangeFunc g ps a b) s) K) Q := by
  refine ev_ko2' ?_ k
  have h1 : lenterLoop s.heap (LMode.around .plain) s.tmps ps a b = some (s.heap.next + 1, [⟨.collected s.heap.next, #[]⟩], (s.heap.new .held).new (.loop ⟨.ready, none, s.tmps, ps, a, b, s.heap.next⟩)) := rfl
  simp only [lcode, h1, hg, he, hf]
  have h2 : (first ++ #[Value.func (.yield (s.heap.next + 1)) #[] #[]] ++ captured).toList = first.toList ++ (Value.func (.yield (s.heap.next + 1)) #[] #[] :: captured.toList) := by simp
  rw [h2, hc]
  have h3 : lloopAt H' (s.heap.next + 1) = some ⟨.ready, none, s.tmps, ps, a, b, s.heap.next⟩ := by
    unfold lloopAt
    rw [hl]
    rfl
  simp only [lend, h3]
  rfl
theorem lk_of_hit {T0 o b : PT Value} {t : Nat} {v : Value} (h : T0 = PT.over o b) (hv : o.get t = some v) : lk T0 t = v := by subst h; exact lk_hit hv
theorem lk_of_miss {T0 o b : PT Value} {t : Nat} {v : Value} (h : T0 = PT.over o b) (hv : o.get t = none) (hb : lk b t = v) : lk T0 t = v := by subst h; exact (lk_miss hv).trans hb
theorem ev_range_ev {C : Ctx} {call : LCall} {round : LRound} {g : Operand} {ps : Array Tmp} {a b : Code} {T : PT Value} {D : List Deferred} {H : LH} {f : FuncId} {fn : Func} {first captured : Array Value} {K : LExit → LS → Option (β × γ)}
    (hg : LS.eval ⟨T, D, H⟩ g = .func (.func f) first captured) (he : C.ext f = none) (hf : C.fn f = some fn)
    (hc : Ev (call f (first.toList ++ (Value.func (.yield (H.next + 1)) #[] #[] :: captured.toList)) ((H.new .held).new (.loop ⟨.ready, none, T, ps, a, b, H.next⟩))) fun _ H' => Ext ((H.new .held).new (.loop ⟨.ready, none, T, ps, a, b, H.next⟩)) H')
    (k : ∀ s : LS, Ext H s.heap → H.next < s.heap.next → s.heap.at H.next = some .held → s.tmps = T → s.defers = ⟨.collected H.next, #[]⟩ :: D → Ev (K .normal s) Q) :
    Ev (ko2 (lcode C call round .plain (.rangeFunc g ps a b) ⟨T, D, H⟩) K) Q := by
  obtain ⟨v, H', e1, e2⟩ := hc
  have hn := e2.next
  simp only [next_new] at hn
  refine ev_range_none hg he hf e1 ?_ (k _ ⟨?_, fun i hi _ => ?_⟩ ?_ ?_ rfl rfl)
  · refine (e2.at (by simp only [next_new]; omega)).trans ?_
    exact at_new_same _ _
  · show H.next ≤ H'.next
    omega
  · refine (at_put_ne (by show i ≠ H.next + 1; omega)).trans ((e2.at (by simp only [next_new]; omega)).trans ?_)
    exact (at_new_ne (by simp only [next_new]; omega)).trans (at_new_ne (by omega))
  · show H.next < H'.next
    omega
  · refine (at_put_ne (by show H.next ≠ H.next + 1; omega)).trans ((e2.at (by simp only [next_new]; omega)).trans ?_)
    exact (at_new_ne (by simp only [next_new]; omega)).trans (at_new_same _ _)
end
end Go.Proofs.YtiedaccgagnofaaGreat
