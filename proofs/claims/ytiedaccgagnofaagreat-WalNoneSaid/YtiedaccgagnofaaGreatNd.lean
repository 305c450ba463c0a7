/- All's function on a log that is none, or a zero one; Of; Do. -/
import Derived.Test.YtiedaccgagnofaaGreatNc
namespace Go.Proofs.YtiedaccgagnofaaGreat
open Go.RowKit
set_option maxRecDepth 1000000

theorem max_run (d : Option Tmp) (t : TypeId) (s : String) (a b : Int) : kflatCall CT.P ⟨d, .call ⟨(.builtin .max), #[(.tmp 7), (.tmp 10)], #[2, 2]⟩, t, s, #[], none⟩ ⟨(.builtin .max), #[(.tmp 7), (.tmp 10)], #[2, 2]⟩ [.int .i64 a, .int .i64 b] = some (.int .i64 (if b > a then b else a)) := by kernel_rfl
theorem over_no {n : Nat} {H : LH} {lv y : Value} (h : NoLog H lv) {c1 c2 : Nat} {lsn : Int} (l1 : c1 < H.next) (l2 : c2 < H.next) (h1 : H.at c1 = some (.cells [.int .i64 lsn] 2 1)) (h2 : H.at c2 = some (.cells [lv] 25 1)) :
    Ev (lcall CT (n + 4) 42 [y, .pointer (some ⟨c1, 0, none⟩), .pointer (some ⟨c2, 0, none⟩)] H) fun v H' => v = .tuple #[] ∧ Ext H H' := by
  refine ev_l (fun _ => L42) ?_
  unfold R42
  (repeat ((first
    | ((with_reducible apply ev_new); ((try simp only [LL]); exact rfl))
    | ((with_reducible apply ev_alloc); exact rfl; ((simp only [ZCS]); exact rfl))
    | ((with_reducible apply ev_load); exact rfl; exact rfl; (repeat (first | exact at_put_same _ _ _ | exact at_new_same _ _ | assumption | refine (at_gap _ _ _).trans ?_ | refine (at_new_ne (by (first | assumption | ((try simp only [NX]); omega)))).trans ?_ | refine (at_put_ne (by (first | assumption | ((try simp only [NX]); omega)))).trans ?_ | refine (Ext.at (by assumption) (by (first | assumption | ((try simp only [NX]); omega)))).trans ?_)); exact rfl)
    | ((with_reducible apply ev_loads); exact rfl; exact rfl; exact rfl; (repeat (first | exact at_put_same _ _ _ | exact at_new_same _ _ | assumption | refine (at_gap _ _ _).trans ?_ | refine (at_new_ne (by (first | assumption | ((try simp only [NX]); omega)))).trans ?_ | refine (at_put_ne (by (first | assumption | ((try simp only [NX]); omega)))).trans ?_ | refine (Ext.at (by assumption) (by (first | assumption | ((try simp only [NX]); omega)))).trans ?_)); exact Nat.le_of_ble_eq_true rfl; ((try simp only [LL]); exact rfl))
    | ((with_reducible apply ev_store); exact rfl; (repeat (first | exact at_put_same _ _ _ | exact at_new_same _ _ | assumption | refine (at_gap _ _ _).trans ?_ | refine (at_new_ne (by (first | assumption | ((try simp only [NX]); omega)))).trans ?_ | refine (at_put_ne (by (first | assumption | ((try simp only [NX]); omega)))).trans ?_ | refine (Ext.at (by assumption) (by (first | assumption | ((try simp only [NX]); omega)))).trans ?_)); ((try simp only [LL]); exact rfl); exact rfl; exact Nat.le_of_ble_eq_true rfl; exact rfl; ((try simp only [LL]); exact rfl))
    | ((with_reducible apply ev_build); exact rfl; exact rfl; exact rfl; ((simp only [ZCS]); exact rfl); ((try simp only [LL]); exact rfl))
    | ((with_reducible apply ev_fieldAddr); exact rfl; exact rfl; exact rfl; exact rfl; ((try simp only [NG]); exact rfl))
    | ((with_reducible apply ev_buildSlice); exact rfl; exact rfl; ((simp only [ZCS]); exact rfl); exact rfl; ((try simp only [LL]); exact rfl))
    | ((with_reducible apply ev_indexAddr); exact rfl; exact rfl; exact rfl; (first | exact Nat.le_of_ble_eq_true rfl | assumption | omega); ((try simp only [LL]); exact rfl))
    | ((with_reducible apply ev_extract); exact rfl)
    | ((with_reducible apply ev_field); exact rfl; exact rfl; exact rfl; exact rfl; exact rfl)
    | ((with_reducible apply ev_condT); exact rfl)
    | ((with_reducible apply ev_condF); exact rfl)
    | ((with_reducible apply ev_test); exact veq_refl _ _ rfl)
    | ((with_reducible apply ev_ko); exact rfl)); try simp only [NB]))
  refine ev_ko2 (look_no (h.ext (by (repeat (first | exact Ext.refl _ | assumption | refine Upd.put ?_ _ (.inr (by first | exact Nat.le_refl _ | ((try simp only [NX]); omega))) | refine Upd.new ?_ _ | refine Upd.gap ?_ _ | refine Upd.trans ?_ (by assumption)))))) ?_
  rintro v H1 ⟨rfl, g1⟩
  unfold zv77
  have g1n := Upd.next g1; (try simp only [NX] at g1n)
  ((first
    | ((with_reducible apply ev_new); ((try simp only [LL]); exact rfl))
    | ((with_reducible apply ev_alloc); exact rfl; ((simp only [ZCS]); exact rfl))
    | ((with_reducible apply ev_load); exact rfl; exact rfl; (repeat (first | exact at_put_same _ _ _ | exact at_new_same _ _ | assumption | refine (at_gap _ _ _).trans ?_ | refine (at_new_ne (by (first | assumption | ((try simp only [NX]); omega)))).trans ?_ | refine (at_put_ne (by (first | assumption | ((try simp only [NX]); omega)))).trans ?_ | refine (Ext.at (by assumption) (by (first | assumption | ((try simp only [NX]); omega)))).trans ?_)); exact rfl)
    | ((with_reducible apply ev_loads); exact rfl; exact rfl; exact rfl; (repeat (first | exact at_put_same _ _ _ | exact at_new_same _ _ | assumption | refine (at_gap _ _ _).trans ?_ | refine (at_new_ne (by (first | assumption | ((try simp only [NX]); omega)))).trans ?_ | refine (at_put_ne (by (first | assumption | ((try simp only [NX]); omega)))).trans ?_ | refine (Ext.at (by assumption) (by (first | assumption | ((try simp only [NX]); omega)))).trans ?_)); exact Nat.le_of_ble_eq_true rfl; ((try simp only [LL]); exact rfl))
    | ((with_reducible apply ev_store); exact rfl; (repeat (first | exact at_put_same _ _ _ | exact at_new_same _ _ | assumption | refine (at_gap _ _ _).trans ?_ | refine (at_new_ne (by (first | assumption | ((try simp only [NX]); omega)))).trans ?_ | refine (at_put_ne (by (first | assumption | ((try simp only [NX]); omega)))).trans ?_ | refine (Ext.at (by assumption) (by (first | assumption | ((try simp only [NX]); omega)))).trans ?_)); ((try simp only [LL]); exact rfl); exact rfl; exact Nat.le_of_ble_eq_true rfl; exact rfl; ((try simp only [LL]); exact rfl))
    | ((with_reducible apply ev_build); exact rfl; exact rfl; exact rfl; ((simp only [ZCS]); exact rfl); ((try simp only [LL]); exact rfl))
    | ((with_reducible apply ev_fieldAddr); exact rfl; exact rfl; exact rfl; exact rfl; ((try simp only [NG]); exact rfl))
    | ((with_reducible apply ev_buildSlice); exact rfl; exact rfl; ((simp only [ZCS]); exact rfl); exact rfl; ((try simp only [LL]); exact rfl))
    | ((with_reducible apply ev_indexAddr); exact rfl; exact rfl; exact rfl; (first | exact Nat.le_of_ble_eq_true rfl | assumption | omega); ((try simp only [LL]); exact rfl))
    | ((with_reducible apply ev_extract); exact rfl)
    | ((with_reducible apply ev_field); exact rfl; exact rfl; exact rfl; exact rfl; exact rfl)
    | ((with_reducible apply ev_condT); exact rfl)
    | ((with_reducible apply ev_condF); exact rfl)
    | ((with_reducible apply ev_test); exact veq_refl _ _ rfl)
    | ((with_reducible apply ev_ko); exact rfl)); try simp only [NB])
  ((first
    | ((with_reducible apply ev_new); ((try simp only [LL]); exact rfl))
    | ((with_reducible apply ev_alloc); exact rfl; ((simp only [ZCS]); exact rfl))
    | ((with_reducible apply ev_load); exact rfl; exact rfl; (repeat (first | exact at_put_same _ _ _ | exact at_new_same _ _ | assumption | refine (at_gap _ _ _).trans ?_ | refine (at_new_ne (by (first | assumption | ((try simp only [NX]); omega)))).trans ?_ | refine (at_put_ne (by (first | assumption | ((try simp only [NX]); omega)))).trans ?_ | refine (Ext.at (by assumption) (by (first | assumption | ((try simp only [NX]); omega)))).trans ?_)); exact rfl)
    | ((with_reducible apply ev_loads); exact rfl; exact rfl; exact rfl; (repeat (first | exact at_put_same _ _ _ | exact at_new_same _ _ | assumption | refine (at_gap _ _ _).trans ?_ | refine (at_new_ne (by (first | assumption | ((try simp only [NX]); omega)))).trans ?_ | refine (at_put_ne (by (first | assumption | ((try simp only [NX]); omega)))).trans ?_ | refine (Ext.at (by assumption) (by (first | assumption | ((try simp only [NX]); omega)))).trans ?_)); exact Nat.le_of_ble_eq_true rfl; ((try simp only [LL]); exact rfl))
    | ((with_reducible apply ev_store); exact rfl; (repeat (first | exact at_put_same _ _ _ | exact at_new_same _ _ | assumption | refine (at_gap _ _ _).trans ?_ | refine (at_new_ne (by (first | assumption | ((try simp only [NX]); omega)))).trans ?_ | refine (at_put_ne (by (first | assumption | ((try simp only [NX]); omega)))).trans ?_ | refine (Ext.at (by assumption) (by (first | assumption | ((try simp only [NX]); omega)))).trans ?_)); ((try simp only [LL]); exact rfl); exact rfl; exact Nat.le_of_ble_eq_true rfl; exact rfl; ((try simp only [LL]); exact rfl))
    | ((with_reducible apply ev_build); exact rfl; exact rfl; exact rfl; ((simp only [ZCS]); exact rfl); ((try simp only [LL]); exact rfl))
    | ((with_reducible apply ev_fieldAddr); exact rfl; exact rfl; exact rfl; exact rfl; ((try simp only [NG]); exact rfl))
    | ((with_reducible apply ev_buildSlice); exact rfl; exact rfl; ((simp only [ZCS]); exact rfl); exact rfl; ((try simp only [LL]); exact rfl))
    | ((with_reducible apply ev_indexAddr); exact rfl; exact rfl; exact rfl; (first | exact Nat.le_of_ble_eq_true rfl | assumption | omega); ((try simp only [LL]); exact rfl))
    | ((with_reducible apply ev_extract); exact rfl)
    | ((with_reducible apply ev_field); exact rfl; exact rfl; exact rfl; exact rfl; exact rfl)
    | ((with_reducible apply ev_condT); exact rfl)
    | ((with_reducible apply ev_condF); exact rfl)
    | ((with_reducible apply ev_test); exact veq_refl _ _ rfl)
    | ((with_reducible apply ev_ko); exact rfl)); try simp only [NB])
  ((first
    | ((with_reducible apply ev_new); ((try simp only [LL]); exact rfl))
    | ((with_reducible apply ev_alloc); exact rfl; ((simp only [ZCS]); exact rfl))
    | ((with_reducible apply ev_load); exact rfl; exact rfl; (repeat (first | exact at_put_same _ _ _ | exact at_new_same _ _ | assumption | refine (at_gap _ _ _).trans ?_ | refine (at_new_ne (by (first | assumption | ((try simp only [NX]); omega)))).trans ?_ | refine (at_put_ne (by (first | assumption | ((try simp only [NX]); omega)))).trans ?_ | refine (Ext.at (by assumption) (by (first | assumption | ((try simp only [NX]); omega)))).trans ?_)); exact rfl)
    | ((with_reducible apply ev_loads); exact rfl; exact rfl; exact rfl; (repeat (first | exact at_put_same _ _ _ | exact at_new_same _ _ | assumption | refine (at_gap _ _ _).trans ?_ | refine (at_new_ne (by (first | assumption | ((try simp only [NX]); omega)))).trans ?_ | refine (at_put_ne (by (first | assumption | ((try simp only [NX]); omega)))).trans ?_ | refine (Ext.at (by assumption) (by (first | assumption | ((try simp only [NX]); omega)))).trans ?_)); exact Nat.le_of_ble_eq_true rfl; ((try simp only [LL]); exact rfl))
    | ((with_reducible apply ev_store); exact rfl; (repeat (first | exact at_put_same _ _ _ | exact at_new_same _ _ | assumption | refine (at_gap _ _ _).trans ?_ | refine (at_new_ne (by (first | assumption | ((try simp only [NX]); omega)))).trans ?_ | refine (at_put_ne (by (first | assumption | ((try simp only [NX]); omega)))).trans ?_ | refine (Ext.at (by assumption) (by (first | assumption | ((try simp only [NX]); omega)))).trans ?_)); ((try simp only [LL]); exact rfl); exact rfl; exact Nat.le_of_ble_eq_true rfl; exact rfl; ((try simp only [LL]); exact rfl))
    | ((with_reducible apply ev_build); exact rfl; exact rfl; exact rfl; ((simp only [ZCS]); exact rfl); ((try simp only [LL]); exact rfl))
    | ((with_reducible apply ev_fieldAddr); exact rfl; exact rfl; exact rfl; exact rfl; ((try simp only [NG]); exact rfl))
    | ((with_reducible apply ev_buildSlice); exact rfl; exact rfl; ((simp only [ZCS]); exact rfl); exact rfl; ((try simp only [LL]); exact rfl))
    | ((with_reducible apply ev_indexAddr); exact rfl; exact rfl; exact rfl; (first | exact Nat.le_of_ble_eq_true rfl | assumption | omega); ((try simp only [LL]); exact rfl))
    | ((with_reducible apply ev_extract); exact rfl)
    | ((with_reducible apply ev_field); exact rfl; exact rfl; exact rfl; exact rfl; exact rfl)
    | ((with_reducible apply ev_condT); exact rfl)
    | ((with_reducible apply ev_condF); exact rfl)
    | ((with_reducible apply ev_test); exact veq_refl _ _ rfl)
    | ((with_reducible apply ev_ko); exact rfl)); try simp only [NB])
  refine ev_ko (max_run _ _ _ _ _) ?_
  refine ev_ko2 (Q1 := fun e s => e = .ret ∧ s.defers = [] ∧ Ext H s.heap) ?_ ?_
  · refine ev_state fun s hT hD hH => ?_; have f2 := lk_of (t := 2) hT rfl; have f4 := lk_of (t := 4) hT rfl; have f0 := lk_of (t := 0) hT rfl; clear hT
    refine ev_unroll ?_
    simp only [f2, f4, f0, hD, hH]
    (repeat ((first
    | ((with_reducible apply ev_new); ((try simp only [LL]); exact rfl))
    | ((with_reducible apply ev_alloc); exact rfl; ((simp only [ZCS]); exact rfl))
    | ((with_reducible apply ev_load); exact rfl; exact rfl; (repeat (first | exact at_put_same _ _ _ | exact at_new_same _ _ | assumption | refine (at_gap _ _ _).trans ?_ | refine (at_new_ne (by (first | assumption | ((try simp only [NX]); omega)))).trans ?_ | refine (at_put_ne (by (first | assumption | ((try simp only [NX]); omega)))).trans ?_ | refine (Ext.at (by assumption) (by (first | assumption | ((try simp only [NX]); omega)))).trans ?_)); exact rfl)
    | ((with_reducible apply ev_loads); exact rfl; exact rfl; exact rfl; (repeat (first | exact at_put_same _ _ _ | exact at_new_same _ _ | assumption | refine (at_gap _ _ _).trans ?_ | refine (at_new_ne (by (first | assumption | ((try simp only [NX]); omega)))).trans ?_ | refine (at_put_ne (by (first | assumption | ((try simp only [NX]); omega)))).trans ?_ | refine (Ext.at (by assumption) (by (first | assumption | ((try simp only [NX]); omega)))).trans ?_)); exact Nat.le_of_ble_eq_true rfl; ((try simp only [LL]); exact rfl))
    | ((with_reducible apply ev_store); exact rfl; (repeat (first | exact at_put_same _ _ _ | exact at_new_same _ _ | assumption | refine (at_gap _ _ _).trans ?_ | refine (at_new_ne (by (first | assumption | ((try simp only [NX]); omega)))).trans ?_ | refine (at_put_ne (by (first | assumption | ((try simp only [NX]); omega)))).trans ?_ | refine (Ext.at (by assumption) (by (first | assumption | ((try simp only [NX]); omega)))).trans ?_)); ((try simp only [LL]); exact rfl); exact rfl; exact Nat.le_of_ble_eq_true rfl; exact rfl; ((try simp only [LL]); exact rfl))
    | ((with_reducible apply ev_build); exact rfl; exact rfl; exact rfl; ((simp only [ZCS]); exact rfl); ((try simp only [LL]); exact rfl))
    | ((with_reducible apply ev_fieldAddr); exact rfl; exact rfl; exact rfl; exact rfl; ((try simp only [NG]); exact rfl))
    | ((with_reducible apply ev_buildSlice); exact rfl; exact rfl; ((simp only [ZCS]); exact rfl); exact rfl; ((try simp only [LL]); exact rfl))
    | ((with_reducible apply ev_indexAddr); exact rfl; exact rfl; exact rfl; (first | exact Nat.le_of_ble_eq_true rfl | assumption | omega); ((try simp only [LL]); exact rfl))
    | ((with_reducible apply ev_extract); exact rfl)
    | ((with_reducible apply ev_field); exact rfl; exact rfl; exact rfl; exact rfl; exact rfl)
    | ((with_reducible apply ev_condT); exact rfl)
    | ((with_reducible apply ev_condF); exact rfl)
    | ((with_reducible apply ev_test); exact veq_refl _ _ rfl)
    | ((with_reducible apply ev_ko); exact rfl)); try simp only [NB]))
    refine ev_ko2 (read_no (h.ext (by (repeat (first | exact Ext.refl _ | assumption | refine Upd.put ?_ _ (.inr (by first | exact Nat.le_refl _ | ((try simp only [NX]); omega))) | refine Upd.new ?_ _ | refine Upd.gap ?_ _ | refine Upd.trans ?_ (by assumption))))) _) ?_
    rintro v H2 ⟨rfl, g2⟩
    have g2n := Upd.next g2; (try simp only [NX] at g2n)
    (repeat ((first
    | ((with_reducible apply ev_new); ((try simp only [LL]); exact rfl))
    | ((with_reducible apply ev_alloc); exact rfl; ((simp only [ZCS]); exact rfl))
    | ((with_reducible apply ev_load); exact rfl; exact rfl; (repeat (first | exact at_put_same _ _ _ | exact at_new_same _ _ | assumption | refine (at_gap _ _ _).trans ?_ | refine (at_new_ne (by (first | assumption | ((try simp only [NX]); omega)))).trans ?_ | refine (at_put_ne (by (first | assumption | ((try simp only [NX]); omega)))).trans ?_ | refine (Ext.at (by assumption) (by (first | assumption | ((try simp only [NX]); omega)))).trans ?_)); exact rfl)
    | ((with_reducible apply ev_loads); exact rfl; exact rfl; exact rfl; (repeat (first | exact at_put_same _ _ _ | exact at_new_same _ _ | assumption | refine (at_gap _ _ _).trans ?_ | refine (at_new_ne (by (first | assumption | ((try simp only [NX]); omega)))).trans ?_ | refine (at_put_ne (by (first | assumption | ((try simp only [NX]); omega)))).trans ?_ | refine (Ext.at (by assumption) (by (first | assumption | ((try simp only [NX]); omega)))).trans ?_)); exact Nat.le_of_ble_eq_true rfl; ((try simp only [LL]); exact rfl))
    | ((with_reducible apply ev_store); exact rfl; (repeat (first | exact at_put_same _ _ _ | exact at_new_same _ _ | assumption | refine (at_gap _ _ _).trans ?_ | refine (at_new_ne (by (first | assumption | ((try simp only [NX]); omega)))).trans ?_ | refine (at_put_ne (by (first | assumption | ((try simp only [NX]); omega)))).trans ?_ | refine (Ext.at (by assumption) (by (first | assumption | ((try simp only [NX]); omega)))).trans ?_)); ((try simp only [LL]); exact rfl); exact rfl; exact Nat.le_of_ble_eq_true rfl; exact rfl; ((try simp only [LL]); exact rfl))
    | ((with_reducible apply ev_build); exact rfl; exact rfl; exact rfl; ((simp only [ZCS]); exact rfl); ((try simp only [LL]); exact rfl))
    | ((with_reducible apply ev_fieldAddr); exact rfl; exact rfl; exact rfl; exact rfl; ((try simp only [NG]); exact rfl))
    | ((with_reducible apply ev_buildSlice); exact rfl; exact rfl; ((simp only [ZCS]); exact rfl); exact rfl; ((try simp only [LL]); exact rfl))
    | ((with_reducible apply ev_indexAddr); exact rfl; exact rfl; exact rfl; (first | exact Nat.le_of_ble_eq_true rfl | assumption | omega); ((try simp only [LL]); exact rfl))
    | ((with_reducible apply ev_extract); exact rfl)
    | ((with_reducible apply ev_field); exact rfl; exact rfl; exact rfl; exact rfl; exact rfl)
    | ((with_reducible apply ev_condT); exact rfl)
    | ((with_reducible apply ev_condF); exact rfl)
    | ((with_reducible apply ev_test); exact veq_refl _ _ rfl)
    | ((with_reducible apply ev_ko); exact rfl)); try simp only [NB]))
    exact ev_ret ⟨(fun e => by cases e), fun _ => ⟨rfl, rfl, by (repeat (first | exact Ext.refl _ | assumption | refine Upd.put ?_ _ (.inr (by first | exact Nat.le_refl _ | ((try simp only [NX]); omega))) | refine Upd.new ?_ _ | refine Upd.gap ?_ _ | refine Upd.trans ?_ (by assumption)))⟩⟩
  · rintro e s ⟨rfl, hd, hx⟩
    refine ev_kret ?_
    rw [hd]
    exact ev_ret ⟨rfl, hx⟩

/-- What Of makes of a call. -/
def OfPost (H : LH) (v : Value) (H' : LH) : Prop :=
  ∃ k l p m c, v = .agg #[.int .i64 k, .int .i64 l, .slice p m c] ∧ (k = 1 ∨ k = 2 ∨ k = 3 ∨ k = 4 ∨ k = 6 ∨ k = 7) ∧ vok 20 v = true ∧ Ext H H'
theorem of_low {n : Nat} {H : LH} (k l : Int) (p : Option Addr) (m c : Nat) (h : decide (k < 1) = true) : Ev (lcall CT (n + 1) 20 [.agg #[.int .i64 k, .int .i64 l, .slice p m c]] H) (OfPost H) := by
  refine ev_l (fun _ => L20) ?_
  unfold R20
  (repeat ((first
    | ((with_reducible apply ev_new); ((try simp only [LL]); exact rfl))
    | ((with_reducible apply ev_alloc); exact rfl; ((simp only [ZCS]); exact rfl))
    | ((with_reducible apply ev_load); exact rfl; exact rfl; (repeat (first | exact at_put_same _ _ _ | exact at_new_same _ _ | assumption | refine (at_gap _ _ _).trans ?_ | refine (at_new_ne (by (first | assumption | ((try simp only [NX]); omega)))).trans ?_ | refine (at_put_ne (by (first | assumption | ((try simp only [NX]); omega)))).trans ?_ | refine (Ext.at (by assumption) (by (first | assumption | ((try simp only [NX]); omega)))).trans ?_)); exact rfl)
    | ((with_reducible apply ev_loads); exact rfl; exact rfl; exact rfl; (repeat (first | exact at_put_same _ _ _ | exact at_new_same _ _ | assumption | refine (at_gap _ _ _).trans ?_ | refine (at_new_ne (by (first | assumption | ((try simp only [NX]); omega)))).trans ?_ | refine (at_put_ne (by (first | assumption | ((try simp only [NX]); omega)))).trans ?_ | refine (Ext.at (by assumption) (by (first | assumption | ((try simp only [NX]); omega)))).trans ?_)); exact Nat.le_of_ble_eq_true rfl; ((try simp only [LL]); exact rfl))
    | ((with_reducible apply ev_store); exact rfl; (repeat (first | exact at_put_same _ _ _ | exact at_new_same _ _ | assumption | refine (at_gap _ _ _).trans ?_ | refine (at_new_ne (by (first | assumption | ((try simp only [NX]); omega)))).trans ?_ | refine (at_put_ne (by (first | assumption | ((try simp only [NX]); omega)))).trans ?_ | refine (Ext.at (by assumption) (by (first | assumption | ((try simp only [NX]); omega)))).trans ?_)); ((try simp only [LL]); exact rfl); exact rfl; exact Nat.le_of_ble_eq_true rfl; exact rfl; ((try simp only [LL]); exact rfl))
    | ((with_reducible apply ev_build); exact rfl; exact rfl; exact rfl; ((simp only [ZCS]); exact rfl); ((try simp only [LL]); exact rfl))
    | ((with_reducible apply ev_fieldAddr); exact rfl; exact rfl; exact rfl; exact rfl; ((try simp only [NG]); exact rfl))
    | ((with_reducible apply ev_buildSlice); exact rfl; exact rfl; ((simp only [ZCS]); exact rfl); exact rfl; ((try simp only [LL]); exact rfl))
    | ((with_reducible apply ev_indexAddr); exact rfl; exact rfl; exact rfl; (first | exact Nat.le_of_ble_eq_true rfl | assumption | omega); ((try simp only [LL]); exact rfl))
    | ((with_reducible apply ev_extract); exact rfl)
    | ((with_reducible apply ev_field); exact rfl; exact rfl; exact rfl; exact rfl; exact rfl)
    | ((with_reducible apply ev_condT); exact rfl)
    | ((with_reducible apply ev_condF); exact rfl)
    | ((with_reducible apply ev_test); exact veq_refl _ _ rfl)
    | ((with_reducible apply ev_ko); exact rfl)); try simp only [NB]))
  rw [h]
  (repeat ((first
    | ((with_reducible apply ev_new); ((try simp only [LL]); exact rfl))
    | ((with_reducible apply ev_alloc); exact rfl; ((simp only [ZCS]); exact rfl))
    | ((with_reducible apply ev_load); exact rfl; exact rfl; (repeat (first | exact at_put_same _ _ _ | exact at_new_same _ _ | assumption | refine (at_gap _ _ _).trans ?_ | refine (at_new_ne (by (first | assumption | ((try simp only [NX]); omega)))).trans ?_ | refine (at_put_ne (by (first | assumption | ((try simp only [NX]); omega)))).trans ?_ | refine (Ext.at (by assumption) (by (first | assumption | ((try simp only [NX]); omega)))).trans ?_)); exact rfl)
    | ((with_reducible apply ev_loads); exact rfl; exact rfl; exact rfl; (repeat (first | exact at_put_same _ _ _ | exact at_new_same _ _ | assumption | refine (at_gap _ _ _).trans ?_ | refine (at_new_ne (by (first | assumption | ((try simp only [NX]); omega)))).trans ?_ | refine (at_put_ne (by (first | assumption | ((try simp only [NX]); omega)))).trans ?_ | refine (Ext.at (by assumption) (by (first | assumption | ((try simp only [NX]); omega)))).trans ?_)); exact Nat.le_of_ble_eq_true rfl; ((try simp only [LL]); exact rfl))
    | ((with_reducible apply ev_store); exact rfl; (repeat (first | exact at_put_same _ _ _ | exact at_new_same _ _ | assumption | refine (at_gap _ _ _).trans ?_ | refine (at_new_ne (by (first | assumption | ((try simp only [NX]); omega)))).trans ?_ | refine (at_put_ne (by (first | assumption | ((try simp only [NX]); omega)))).trans ?_ | refine (Ext.at (by assumption) (by (first | assumption | ((try simp only [NX]); omega)))).trans ?_)); ((try simp only [LL]); exact rfl); exact rfl; exact Nat.le_of_ble_eq_true rfl; exact rfl; ((try simp only [LL]); exact rfl))
    | ((with_reducible apply ev_build); exact rfl; exact rfl; exact rfl; ((simp only [ZCS]); exact rfl); ((try simp only [LL]); exact rfl))
    | ((with_reducible apply ev_fieldAddr); exact rfl; exact rfl; exact rfl; exact rfl; ((try simp only [NG]); exact rfl))
    | ((with_reducible apply ev_buildSlice); exact rfl; exact rfl; ((simp only [ZCS]); exact rfl); exact rfl; ((try simp only [LL]); exact rfl))
    | ((with_reducible apply ev_indexAddr); exact rfl; exact rfl; exact rfl; (first | exact Nat.le_of_ble_eq_true rfl | assumption | omega); ((try simp only [LL]); exact rfl))
    | ((with_reducible apply ev_extract); exact rfl)
    | ((with_reducible apply ev_field); exact rfl; exact rfl; exact rfl; exact rfl; exact rfl)
    | ((with_reducible apply ev_condT); exact rfl)
    | ((with_reducible apply ev_condF); exact rfl)
    | ((with_reducible apply ev_test); exact veq_refl _ _ rfl)
    | ((with_reducible apply ev_ko); exact rfl)); try simp only [NB]))
  exact ev_ret ⟨_, _, _, _, _, rfl, by omega, rfl, by (repeat (first | exact Ext.refl _ | assumption | refine Upd.put ?_ _ (.inr (by first | exact Nat.le_refl _ | ((try simp only [NX]); omega))) | refine Upd.new ?_ _ | refine Upd.gap ?_ _ | refine Upd.trans ?_ (by assumption)))⟩
theorem of_high {n : Nat} {H : LH} (k l : Int) (p : Option Addr) (m c : Nat) (h0 : decide (k < 1) = false) (h : decide (7 < k) = true) : Ev (lcall CT (n + 1) 20 [.agg #[.int .i64 k, .int .i64 l, .slice p m c]] H) (OfPost H) := by
  refine ev_l (fun _ => L20) ?_
  unfold R20
  (repeat ((first
    | ((with_reducible apply ev_new); ((try simp only [LL]); exact rfl))
    | ((with_reducible apply ev_alloc); exact rfl; ((simp only [ZCS]); exact rfl))
    | ((with_reducible apply ev_load); exact rfl; exact rfl; (repeat (first | exact at_put_same _ _ _ | exact at_new_same _ _ | assumption | refine (at_gap _ _ _).trans ?_ | refine (at_new_ne (by (first | assumption | ((try simp only [NX]); omega)))).trans ?_ | refine (at_put_ne (by (first | assumption | ((try simp only [NX]); omega)))).trans ?_ | refine (Ext.at (by assumption) (by (first | assumption | ((try simp only [NX]); omega)))).trans ?_)); exact rfl)
    | ((with_reducible apply ev_loads); exact rfl; exact rfl; exact rfl; (repeat (first | exact at_put_same _ _ _ | exact at_new_same _ _ | assumption | refine (at_gap _ _ _).trans ?_ | refine (at_new_ne (by (first | assumption | ((try simp only [NX]); omega)))).trans ?_ | refine (at_put_ne (by (first | assumption | ((try simp only [NX]); omega)))).trans ?_ | refine (Ext.at (by assumption) (by (first | assumption | ((try simp only [NX]); omega)))).trans ?_)); exact Nat.le_of_ble_eq_true rfl; ((try simp only [LL]); exact rfl))
    | ((with_reducible apply ev_store); exact rfl; (repeat (first | exact at_put_same _ _ _ | exact at_new_same _ _ | assumption | refine (at_gap _ _ _).trans ?_ | refine (at_new_ne (by (first | assumption | ((try simp only [NX]); omega)))).trans ?_ | refine (at_put_ne (by (first | assumption | ((try simp only [NX]); omega)))).trans ?_ | refine (Ext.at (by assumption) (by (first | assumption | ((try simp only [NX]); omega)))).trans ?_)); ((try simp only [LL]); exact rfl); exact rfl; exact Nat.le_of_ble_eq_true rfl; exact rfl; ((try simp only [LL]); exact rfl))
    | ((with_reducible apply ev_build); exact rfl; exact rfl; exact rfl; ((simp only [ZCS]); exact rfl); ((try simp only [LL]); exact rfl))
    | ((with_reducible apply ev_fieldAddr); exact rfl; exact rfl; exact rfl; exact rfl; ((try simp only [NG]); exact rfl))
    | ((with_reducible apply ev_buildSlice); exact rfl; exact rfl; ((simp only [ZCS]); exact rfl); exact rfl; ((try simp only [LL]); exact rfl))
    | ((with_reducible apply ev_indexAddr); exact rfl; exact rfl; exact rfl; (first | exact Nat.le_of_ble_eq_true rfl | assumption | omega); ((try simp only [LL]); exact rfl))
    | ((with_reducible apply ev_extract); exact rfl)
    | ((with_reducible apply ev_field); exact rfl; exact rfl; exact rfl; exact rfl; exact rfl)
    | ((with_reducible apply ev_condT); exact rfl)
    | ((with_reducible apply ev_condF); exact rfl)
    | ((with_reducible apply ev_test); exact veq_refl _ _ rfl)
    | ((with_reducible apply ev_ko); exact rfl)); try simp only [NB]))
  rw [h0]
  (repeat ((first
    | ((with_reducible apply ev_new); ((try simp only [LL]); exact rfl))
    | ((with_reducible apply ev_alloc); exact rfl; ((simp only [ZCS]); exact rfl))
    | ((with_reducible apply ev_load); exact rfl; exact rfl; (repeat (first | exact at_put_same _ _ _ | exact at_new_same _ _ | assumption | refine (at_gap _ _ _).trans ?_ | refine (at_new_ne (by (first | assumption | ((try simp only [NX]); omega)))).trans ?_ | refine (at_put_ne (by (first | assumption | ((try simp only [NX]); omega)))).trans ?_ | refine (Ext.at (by assumption) (by (first | assumption | ((try simp only [NX]); omega)))).trans ?_)); exact rfl)
    | ((with_reducible apply ev_loads); exact rfl; exact rfl; exact rfl; (repeat (first | exact at_put_same _ _ _ | exact at_new_same _ _ | assumption | refine (at_gap _ _ _).trans ?_ | refine (at_new_ne (by (first | assumption | ((try simp only [NX]); omega)))).trans ?_ | refine (at_put_ne (by (first | assumption | ((try simp only [NX]); omega)))).trans ?_ | refine (Ext.at (by assumption) (by (first | assumption | ((try simp only [NX]); omega)))).trans ?_)); exact Nat.le_of_ble_eq_true rfl; ((try simp only [LL]); exact rfl))
    | ((with_reducible apply ev_store); exact rfl; (repeat (first | exact at_put_same _ _ _ | exact at_new_same _ _ | assumption | refine (at_gap _ _ _).trans ?_ | refine (at_new_ne (by (first | assumption | ((try simp only [NX]); omega)))).trans ?_ | refine (at_put_ne (by (first | assumption | ((try simp only [NX]); omega)))).trans ?_ | refine (Ext.at (by assumption) (by (first | assumption | ((try simp only [NX]); omega)))).trans ?_)); ((try simp only [LL]); exact rfl); exact rfl; exact Nat.le_of_ble_eq_true rfl; exact rfl; ((try simp only [LL]); exact rfl))
    | ((with_reducible apply ev_build); exact rfl; exact rfl; exact rfl; ((simp only [ZCS]); exact rfl); ((try simp only [LL]); exact rfl))
    | ((with_reducible apply ev_fieldAddr); exact rfl; exact rfl; exact rfl; exact rfl; ((try simp only [NG]); exact rfl))
    | ((with_reducible apply ev_buildSlice); exact rfl; exact rfl; ((simp only [ZCS]); exact rfl); exact rfl; ((try simp only [LL]); exact rfl))
    | ((with_reducible apply ev_indexAddr); exact rfl; exact rfl; exact rfl; (first | exact Nat.le_of_ble_eq_true rfl | assumption | omega); ((try simp only [LL]); exact rfl))
    | ((with_reducible apply ev_extract); exact rfl)
    | ((with_reducible apply ev_field); exact rfl; exact rfl; exact rfl; exact rfl; exact rfl)
    | ((with_reducible apply ev_condT); exact rfl)
    | ((with_reducible apply ev_condF); exact rfl)
    | ((with_reducible apply ev_test); exact veq_refl _ _ rfl)
    | ((with_reducible apply ev_ko); exact rfl)); try simp only [NB]))
  rw [h]
  (repeat ((first
    | ((with_reducible apply ev_new); ((try simp only [LL]); exact rfl))
    | ((with_reducible apply ev_alloc); exact rfl; ((simp only [ZCS]); exact rfl))
    | ((with_reducible apply ev_load); exact rfl; exact rfl; (repeat (first | exact at_put_same _ _ _ | exact at_new_same _ _ | assumption | refine (at_gap _ _ _).trans ?_ | refine (at_new_ne (by (first | assumption | ((try simp only [NX]); omega)))).trans ?_ | refine (at_put_ne (by (first | assumption | ((try simp only [NX]); omega)))).trans ?_ | refine (Ext.at (by assumption) (by (first | assumption | ((try simp only [NX]); omega)))).trans ?_)); exact rfl)
    | ((with_reducible apply ev_loads); exact rfl; exact rfl; exact rfl; (repeat (first | exact at_put_same _ _ _ | exact at_new_same _ _ | assumption | refine (at_gap _ _ _).trans ?_ | refine (at_new_ne (by (first | assumption | ((try simp only [NX]); omega)))).trans ?_ | refine (at_put_ne (by (first | assumption | ((try simp only [NX]); omega)))).trans ?_ | refine (Ext.at (by assumption) (by (first | assumption | ((try simp only [NX]); omega)))).trans ?_)); exact Nat.le_of_ble_eq_true rfl; ((try simp only [LL]); exact rfl))
    | ((with_reducible apply ev_store); exact rfl; (repeat (first | exact at_put_same _ _ _ | exact at_new_same _ _ | assumption | refine (at_gap _ _ _).trans ?_ | refine (at_new_ne (by (first | assumption | ((try simp only [NX]); omega)))).trans ?_ | refine (at_put_ne (by (first | assumption | ((try simp only [NX]); omega)))).trans ?_ | refine (Ext.at (by assumption) (by (first | assumption | ((try simp only [NX]); omega)))).trans ?_)); ((try simp only [LL]); exact rfl); exact rfl; exact Nat.le_of_ble_eq_true rfl; exact rfl; ((try simp only [LL]); exact rfl))
    | ((with_reducible apply ev_build); exact rfl; exact rfl; exact rfl; ((simp only [ZCS]); exact rfl); ((try simp only [LL]); exact rfl))
    | ((with_reducible apply ev_fieldAddr); exact rfl; exact rfl; exact rfl; exact rfl; ((try simp only [NG]); exact rfl))
    | ((with_reducible apply ev_buildSlice); exact rfl; exact rfl; ((simp only [ZCS]); exact rfl); exact rfl; ((try simp only [LL]); exact rfl))
    | ((with_reducible apply ev_indexAddr); exact rfl; exact rfl; exact rfl; (first | exact Nat.le_of_ble_eq_true rfl | assumption | omega); ((try simp only [LL]); exact rfl))
    | ((with_reducible apply ev_extract); exact rfl)
    | ((with_reducible apply ev_field); exact rfl; exact rfl; exact rfl; exact rfl; exact rfl)
    | ((with_reducible apply ev_condT); exact rfl)
    | ((with_reducible apply ev_condF); exact rfl)
    | ((with_reducible apply ev_test); exact veq_refl _ _ rfl)
    | ((with_reducible apply ev_ko); exact rfl)); try simp only [NB]))
  exact ev_ret ⟨_, _, _, _, _, rfl, by omega, rfl, by (repeat (first | exact Ext.refl _ | assumption | refine Upd.put ?_ _ (.inr (by first | exact Nat.le_refl _ | ((try simp only [NX]); omega))) | refine Upd.new ?_ _ | refine Upd.gap ?_ _ | refine Upd.trans ?_ (by assumption)))⟩
def PlainAddr (p : Option Addr) : Prop := p = none ∨ ∃ b o, p = some ⟨b, o, none⟩
theorem of_mid {n : Nat} {H : LH} (k l : Int) (p : Option Addr) (m c : Nat) (hp : PlainAddr p) (h : k = 1 ∨ k = 2 ∨ k = 3 ∨ k = 4 ∨ k = 5 ∨ k = 6 ∨ k = 7) : Ev (lcall CT (n + 1) 20 [.agg #[.int .i64 k, .int .i64 l, .slice p m c]] H) (OfPost H) := by
  refine ev_l (fun _ => L20) ?_
  unfold R20
  rcases h with rfl | rfl | rfl | rfl | rfl | rfl | rfl
  all_goals
    rcases hp with rfl | ⟨b, o, rfl⟩
  all_goals
    (repeat ((first
    | ((with_reducible apply ev_new); ((try simp only [LL]); exact rfl))
    | ((with_reducible apply ev_alloc); exact rfl; ((simp only [ZCS]); exact rfl))
    | ((with_reducible apply ev_load); exact rfl; exact rfl; (repeat (first | exact at_put_same _ _ _ | exact at_new_same _ _ | assumption | refine (at_gap _ _ _).trans ?_ | refine (at_new_ne (by (first | assumption | ((try simp only [NX]); omega)))).trans ?_ | refine (at_put_ne (by (first | assumption | ((try simp only [NX]); omega)))).trans ?_ | refine (Ext.at (by assumption) (by (first | assumption | ((try simp only [NX]); omega)))).trans ?_)); exact rfl)
    | ((with_reducible apply ev_loads); exact rfl; exact rfl; exact rfl; (repeat (first | exact at_put_same _ _ _ | exact at_new_same _ _ | assumption | refine (at_gap _ _ _).trans ?_ | refine (at_new_ne (by (first | assumption | ((try simp only [NX]); omega)))).trans ?_ | refine (at_put_ne (by (first | assumption | ((try simp only [NX]); omega)))).trans ?_ | refine (Ext.at (by assumption) (by (first | assumption | ((try simp only [NX]); omega)))).trans ?_)); exact Nat.le_of_ble_eq_true rfl; ((try simp only [LL]); exact rfl))
    | ((with_reducible apply ev_store); exact rfl; (repeat (first | exact at_put_same _ _ _ | exact at_new_same _ _ | assumption | refine (at_gap _ _ _).trans ?_ | refine (at_new_ne (by (first | assumption | ((try simp only [NX]); omega)))).trans ?_ | refine (at_put_ne (by (first | assumption | ((try simp only [NX]); omega)))).trans ?_ | refine (Ext.at (by assumption) (by (first | assumption | ((try simp only [NX]); omega)))).trans ?_)); ((try simp only [LL]); exact rfl); exact rfl; exact Nat.le_of_ble_eq_true rfl; exact rfl; ((try simp only [LL]); exact rfl))
    | ((with_reducible apply ev_build); exact rfl; exact rfl; exact rfl; ((simp only [ZCS]); exact rfl); ((try simp only [LL]); exact rfl))
    | ((with_reducible apply ev_fieldAddr); exact rfl; exact rfl; exact rfl; exact rfl; ((try simp only [NG]); exact rfl))
    | ((with_reducible apply ev_buildSlice); exact rfl; exact rfl; ((simp only [ZCS]); exact rfl); exact rfl; ((try simp only [LL]); exact rfl))
    | ((with_reducible apply ev_indexAddr); exact rfl; exact rfl; exact rfl; (first | exact Nat.le_of_ble_eq_true rfl | assumption | omega); ((try simp only [LL]); exact rfl))
    | ((with_reducible apply ev_extract); exact rfl)
    | ((with_reducible apply ev_field); exact rfl; exact rfl; exact rfl; exact rfl; exact rfl)
    | ((with_reducible apply ev_condT); exact rfl)
    | ((with_reducible apply ev_condF); exact rfl)
    | ((with_reducible apply ev_test); exact veq_refl _ _ rfl)
    | ((with_reducible apply ev_ko); exact rfl)); try simp only [NB]))
    exact ev_ret ⟨_, _, _, _, _, rfl, by omega, rfl, by (repeat (first | exact Ext.refl _ | assumption | refine Upd.put ?_ _ (.inr (by first | exact Nat.le_refl _ | ((try simp only [NX]); omega))) | refine Upd.new ?_ _ | refine Upd.gap ?_ _ | refine Upd.trans ?_ (by assumption)))⟩
theorem of_ok {n : Nat} {H : LH} (k l : Int) (p : Option Addr) (m c : Nat) (hp : PlainAddr p) : Ev (lcall CT (n + 1) 20 [.agg #[.int .i64 k, .int .i64 l, .slice p m c]] H) (OfPost H) := by
  by_cases h1 : k < 1
  · exact of_low k l p m c (decide_eq_true h1)
  · by_cases h2 : 7 < k
    · exact of_high k l p m c (decide_eq_false h1) (decide_eq_true h2)
    · exact of_mid k l p m c hp (by omega)
theorem do_no {n : Nat} {H : LH} {lv : Value} (h : NoLog H lv) (k l : Int) (p : Option Addr) (m c : Nat) (hk : k = 1 ∨ k = 2 ∨ k = 3 ∨ k = 4 ∨ k = 6 ∨ k = 7) :
    Ev (lcall CT (n + 4) 19 [lv, .agg #[.int .i64 k, .int .i64 l, .slice p m c]] H) fun v H' => v = .agg #[.int .i64 41, .int .i64 0, .slice none 0 0] ∧ Ext H H' := by
  refine ev_l (fun _ => L19) ?_
  unfold R19
  rcases hk with rfl | rfl | rfl | rfl | rfl | rfl
  · (repeat ((first
    | ((with_reducible apply ev_new); ((try simp only [LL]); exact rfl))
    | ((with_reducible apply ev_alloc); exact rfl; ((simp only [ZCS]); exact rfl))
    | ((with_reducible apply ev_load); exact rfl; exact rfl; (repeat (first | exact at_put_same _ _ _ | exact at_new_same _ _ | assumption | refine (at_gap _ _ _).trans ?_ | refine (at_new_ne (by (first | assumption | ((try simp only [NX]); omega)))).trans ?_ | refine (at_put_ne (by (first | assumption | ((try simp only [NX]); omega)))).trans ?_ | refine (Ext.at (by assumption) (by (first | assumption | ((try simp only [NX]); omega)))).trans ?_)); exact rfl)
    | ((with_reducible apply ev_loads); exact rfl; exact rfl; exact rfl; (repeat (first | exact at_put_same _ _ _ | exact at_new_same _ _ | assumption | refine (at_gap _ _ _).trans ?_ | refine (at_new_ne (by (first | assumption | ((try simp only [NX]); omega)))).trans ?_ | refine (at_put_ne (by (first | assumption | ((try simp only [NX]); omega)))).trans ?_ | refine (Ext.at (by assumption) (by (first | assumption | ((try simp only [NX]); omega)))).trans ?_)); exact Nat.le_of_ble_eq_true rfl; ((try simp only [LL]); exact rfl))
    | ((with_reducible apply ev_store); exact rfl; (repeat (first | exact at_put_same _ _ _ | exact at_new_same _ _ | assumption | refine (at_gap _ _ _).trans ?_ | refine (at_new_ne (by (first | assumption | ((try simp only [NX]); omega)))).trans ?_ | refine (at_put_ne (by (first | assumption | ((try simp only [NX]); omega)))).trans ?_ | refine (Ext.at (by assumption) (by (first | assumption | ((try simp only [NX]); omega)))).trans ?_)); ((try simp only [LL]); exact rfl); exact rfl; exact Nat.le_of_ble_eq_true rfl; exact rfl; ((try simp only [LL]); exact rfl))
    | ((with_reducible apply ev_build); exact rfl; exact rfl; exact rfl; ((simp only [ZCS]); exact rfl); ((try simp only [LL]); exact rfl))
    | ((with_reducible apply ev_fieldAddr); exact rfl; exact rfl; exact rfl; exact rfl; ((try simp only [NG]); exact rfl))
    | ((with_reducible apply ev_buildSlice); exact rfl; exact rfl; ((simp only [ZCS]); exact rfl); exact rfl; ((try simp only [LL]); exact rfl))
    | ((with_reducible apply ev_indexAddr); exact rfl; exact rfl; exact rfl; (first | exact Nat.le_of_ble_eq_true rfl | assumption | omega); ((try simp only [LL]); exact rfl))
    | ((with_reducible apply ev_extract); exact rfl)
    | ((with_reducible apply ev_field); exact rfl; exact rfl; exact rfl; exact rfl; exact rfl)
    | ((with_reducible apply ev_condT); exact rfl)
    | ((with_reducible apply ev_condF); exact rfl)
    | ((with_reducible apply ev_test); exact veq_refl _ _ rfl)
    | ((with_reducible apply ev_ko); exact rfl)); try simp only [NB]))
    refine ev_ko2 (append_no (h.ext (by (repeat (first | exact Ext.refl _ | assumption | refine Upd.put ?_ _ (.inr (by first | exact Nat.le_refl _ | ((try simp only [NX]); omega))) | refine Upd.new ?_ _ | refine Upd.gap ?_ _ | refine Upd.trans ?_ (by assumption))))) _ _ _) ?_
    rintro v H' ⟨rfl, h1⟩
    have h1n := Upd.next h1; (try simp only [NX] at h1n)
    (repeat ((first
    | ((with_reducible apply ev_new); ((try simp only [LL]); exact rfl))
    | ((with_reducible apply ev_alloc); exact rfl; ((simp only [ZCS]); exact rfl))
    | ((with_reducible apply ev_load); exact rfl; exact rfl; (repeat (first | exact at_put_same _ _ _ | exact at_new_same _ _ | assumption | refine (at_gap _ _ _).trans ?_ | refine (at_new_ne (by (first | assumption | ((try simp only [NX]); omega)))).trans ?_ | refine (at_put_ne (by (first | assumption | ((try simp only [NX]); omega)))).trans ?_ | refine (Ext.at (by assumption) (by (first | assumption | ((try simp only [NX]); omega)))).trans ?_)); exact rfl)
    | ((with_reducible apply ev_loads); exact rfl; exact rfl; exact rfl; (repeat (first | exact at_put_same _ _ _ | exact at_new_same _ _ | assumption | refine (at_gap _ _ _).trans ?_ | refine (at_new_ne (by (first | assumption | ((try simp only [NX]); omega)))).trans ?_ | refine (at_put_ne (by (first | assumption | ((try simp only [NX]); omega)))).trans ?_ | refine (Ext.at (by assumption) (by (first | assumption | ((try simp only [NX]); omega)))).trans ?_)); exact Nat.le_of_ble_eq_true rfl; ((try simp only [LL]); exact rfl))
    | ((with_reducible apply ev_store); exact rfl; (repeat (first | exact at_put_same _ _ _ | exact at_new_same _ _ | assumption | refine (at_gap _ _ _).trans ?_ | refine (at_new_ne (by (first | assumption | ((try simp only [NX]); omega)))).trans ?_ | refine (at_put_ne (by (first | assumption | ((try simp only [NX]); omega)))).trans ?_ | refine (Ext.at (by assumption) (by (first | assumption | ((try simp only [NX]); omega)))).trans ?_)); ((try simp only [LL]); exact rfl); exact rfl; exact Nat.le_of_ble_eq_true rfl; exact rfl; ((try simp only [LL]); exact rfl))
    | ((with_reducible apply ev_build); exact rfl; exact rfl; exact rfl; ((simp only [ZCS]); exact rfl); ((try simp only [LL]); exact rfl))
    | ((with_reducible apply ev_fieldAddr); exact rfl; exact rfl; exact rfl; exact rfl; ((try simp only [NG]); exact rfl))
    | ((with_reducible apply ev_buildSlice); exact rfl; exact rfl; ((simp only [ZCS]); exact rfl); exact rfl; ((try simp only [LL]); exact rfl))
    | ((with_reducible apply ev_indexAddr); exact rfl; exact rfl; exact rfl; (first | exact Nat.le_of_ble_eq_true rfl | assumption | omega); ((try simp only [LL]); exact rfl))
    | ((with_reducible apply ev_extract); exact rfl)
    | ((with_reducible apply ev_field); exact rfl; exact rfl; exact rfl; exact rfl; exact rfl)
    | ((with_reducible apply ev_condT); exact rfl)
    | ((with_reducible apply ev_condF); exact rfl)
    | ((with_reducible apply ev_test); exact veq_refl _ _ rfl)
    | ((with_reducible apply ev_ko); exact rfl)); try simp only [NB]))
    exact ev_ret ⟨rfl, by (repeat (first | exact Ext.refl _ | assumption | refine Upd.put ?_ _ (.inr (by first | exact Nat.le_refl _ | ((try simp only [NX]); omega))) | refine Upd.new ?_ _ | refine Upd.gap ?_ _ | refine Upd.trans ?_ (by assumption)))⟩
  · (repeat ((first
    | ((with_reducible apply ev_new); ((try simp only [LL]); exact rfl))
    | ((with_reducible apply ev_alloc); exact rfl; ((simp only [ZCS]); exact rfl))
    | ((with_reducible apply ev_load); exact rfl; exact rfl; (repeat (first | exact at_put_same _ _ _ | exact at_new_same _ _ | assumption | refine (at_gap _ _ _).trans ?_ | refine (at_new_ne (by (first | assumption | ((try simp only [NX]); omega)))).trans ?_ | refine (at_put_ne (by (first | assumption | ((try simp only [NX]); omega)))).trans ?_ | refine (Ext.at (by assumption) (by (first | assumption | ((try simp only [NX]); omega)))).trans ?_)); exact rfl)
    | ((with_reducible apply ev_loads); exact rfl; exact rfl; exact rfl; (repeat (first | exact at_put_same _ _ _ | exact at_new_same _ _ | assumption | refine (at_gap _ _ _).trans ?_ | refine (at_new_ne (by (first | assumption | ((try simp only [NX]); omega)))).trans ?_ | refine (at_put_ne (by (first | assumption | ((try simp only [NX]); omega)))).trans ?_ | refine (Ext.at (by assumption) (by (first | assumption | ((try simp only [NX]); omega)))).trans ?_)); exact Nat.le_of_ble_eq_true rfl; ((try simp only [LL]); exact rfl))
    | ((with_reducible apply ev_store); exact rfl; (repeat (first | exact at_put_same _ _ _ | exact at_new_same _ _ | assumption | refine (at_gap _ _ _).trans ?_ | refine (at_new_ne (by (first | assumption | ((try simp only [NX]); omega)))).trans ?_ | refine (at_put_ne (by (first | assumption | ((try simp only [NX]); omega)))).trans ?_ | refine (Ext.at (by assumption) (by (first | assumption | ((try simp only [NX]); omega)))).trans ?_)); ((try simp only [LL]); exact rfl); exact rfl; exact Nat.le_of_ble_eq_true rfl; exact rfl; ((try simp only [LL]); exact rfl))
    | ((with_reducible apply ev_build); exact rfl; exact rfl; exact rfl; ((simp only [ZCS]); exact rfl); ((try simp only [LL]); exact rfl))
    | ((with_reducible apply ev_fieldAddr); exact rfl; exact rfl; exact rfl; exact rfl; ((try simp only [NG]); exact rfl))
    | ((with_reducible apply ev_buildSlice); exact rfl; exact rfl; ((simp only [ZCS]); exact rfl); exact rfl; ((try simp only [LL]); exact rfl))
    | ((with_reducible apply ev_indexAddr); exact rfl; exact rfl; exact rfl; (first | exact Nat.le_of_ble_eq_true rfl | assumption | omega); ((try simp only [LL]); exact rfl))
    | ((with_reducible apply ev_extract); exact rfl)
    | ((with_reducible apply ev_field); exact rfl; exact rfl; exact rfl; exact rfl; exact rfl)
    | ((with_reducible apply ev_condT); exact rfl)
    | ((with_reducible apply ev_condF); exact rfl)
    | ((with_reducible apply ev_test); exact veq_refl _ _ rfl)
    | ((with_reducible apply ev_ko); exact rfl)); try simp only [NB]))
    refine ev_ko2 (async_no (h.ext (by (repeat (first | exact Ext.refl _ | assumption | refine Upd.put ?_ _ (.inr (by first | exact Nat.le_refl _ | ((try simp only [NX]); omega))) | refine Upd.new ?_ _ | refine Upd.gap ?_ _ | refine Upd.trans ?_ (by assumption))))) _ _ _) ?_
    rintro v H' ⟨rfl, h1⟩
    have h1n := Upd.next h1; (try simp only [NX] at h1n)
    (repeat ((first
    | ((with_reducible apply ev_new); ((try simp only [LL]); exact rfl))
    | ((with_reducible apply ev_alloc); exact rfl; ((simp only [ZCS]); exact rfl))
    | ((with_reducible apply ev_load); exact rfl; exact rfl; (repeat (first | exact at_put_same _ _ _ | exact at_new_same _ _ | assumption | refine (at_gap _ _ _).trans ?_ | refine (at_new_ne (by (first | assumption | ((try simp only [NX]); omega)))).trans ?_ | refine (at_put_ne (by (first | assumption | ((try simp only [NX]); omega)))).trans ?_ | refine (Ext.at (by assumption) (by (first | assumption | ((try simp only [NX]); omega)))).trans ?_)); exact rfl)
    | ((with_reducible apply ev_loads); exact rfl; exact rfl; exact rfl; (repeat (first | exact at_put_same _ _ _ | exact at_new_same _ _ | assumption | refine (at_gap _ _ _).trans ?_ | refine (at_new_ne (by (first | assumption | ((try simp only [NX]); omega)))).trans ?_ | refine (at_put_ne (by (first | assumption | ((try simp only [NX]); omega)))).trans ?_ | refine (Ext.at (by assumption) (by (first | assumption | ((try simp only [NX]); omega)))).trans ?_)); exact Nat.le_of_ble_eq_true rfl; ((try simp only [LL]); exact rfl))
    | ((with_reducible apply ev_store); exact rfl; (repeat (first | exact at_put_same _ _ _ | exact at_new_same _ _ | assumption | refine (at_gap _ _ _).trans ?_ | refine (at_new_ne (by (first | assumption | ((try simp only [NX]); omega)))).trans ?_ | refine (at_put_ne (by (first | assumption | ((try simp only [NX]); omega)))).trans ?_ | refine (Ext.at (by assumption) (by (first | assumption | ((try simp only [NX]); omega)))).trans ?_)); ((try simp only [LL]); exact rfl); exact rfl; exact Nat.le_of_ble_eq_true rfl; exact rfl; ((try simp only [LL]); exact rfl))
    | ((with_reducible apply ev_build); exact rfl; exact rfl; exact rfl; ((simp only [ZCS]); exact rfl); ((try simp only [LL]); exact rfl))
    | ((with_reducible apply ev_fieldAddr); exact rfl; exact rfl; exact rfl; exact rfl; ((try simp only [NG]); exact rfl))
    | ((with_reducible apply ev_buildSlice); exact rfl; exact rfl; ((simp only [ZCS]); exact rfl); exact rfl; ((try simp only [LL]); exact rfl))
    | ((with_reducible apply ev_indexAddr); exact rfl; exact rfl; exact rfl; (first | exact Nat.le_of_ble_eq_true rfl | assumption | omega); ((try simp only [LL]); exact rfl))
    | ((with_reducible apply ev_extract); exact rfl)
    | ((with_reducible apply ev_field); exact rfl; exact rfl; exact rfl; exact rfl; exact rfl)
    | ((with_reducible apply ev_condT); exact rfl)
    | ((with_reducible apply ev_condF); exact rfl)
    | ((with_reducible apply ev_test); exact veq_refl _ _ rfl)
    | ((with_reducible apply ev_ko); exact rfl)); try simp only [NB]))
    exact ev_ret ⟨rfl, by (repeat (first | exact Ext.refl _ | assumption | refine Upd.put ?_ _ (.inr (by first | exact Nat.le_refl _ | ((try simp only [NX]); omega))) | refine Upd.new ?_ _ | refine Upd.gap ?_ _ | refine Upd.trans ?_ (by assumption)))⟩
  · (repeat ((first
    | ((with_reducible apply ev_new); ((try simp only [LL]); exact rfl))
    | ((with_reducible apply ev_alloc); exact rfl; ((simp only [ZCS]); exact rfl))
    | ((with_reducible apply ev_load); exact rfl; exact rfl; (repeat (first | exact at_put_same _ _ _ | exact at_new_same _ _ | assumption | refine (at_gap _ _ _).trans ?_ | refine (at_new_ne (by (first | assumption | ((try simp only [NX]); omega)))).trans ?_ | refine (at_put_ne (by (first | assumption | ((try simp only [NX]); omega)))).trans ?_ | refine (Ext.at (by assumption) (by (first | assumption | ((try simp only [NX]); omega)))).trans ?_)); exact rfl)
    | ((with_reducible apply ev_loads); exact rfl; exact rfl; exact rfl; (repeat (first | exact at_put_same _ _ _ | exact at_new_same _ _ | assumption | refine (at_gap _ _ _).trans ?_ | refine (at_new_ne (by (first | assumption | ((try simp only [NX]); omega)))).trans ?_ | refine (at_put_ne (by (first | assumption | ((try simp only [NX]); omega)))).trans ?_ | refine (Ext.at (by assumption) (by (first | assumption | ((try simp only [NX]); omega)))).trans ?_)); exact Nat.le_of_ble_eq_true rfl; ((try simp only [LL]); exact rfl))
    | ((with_reducible apply ev_store); exact rfl; (repeat (first | exact at_put_same _ _ _ | exact at_new_same _ _ | assumption | refine (at_gap _ _ _).trans ?_ | refine (at_new_ne (by (first | assumption | ((try simp only [NX]); omega)))).trans ?_ | refine (at_put_ne (by (first | assumption | ((try simp only [NX]); omega)))).trans ?_ | refine (Ext.at (by assumption) (by (first | assumption | ((try simp only [NX]); omega)))).trans ?_)); ((try simp only [LL]); exact rfl); exact rfl; exact Nat.le_of_ble_eq_true rfl; exact rfl; ((try simp only [LL]); exact rfl))
    | ((with_reducible apply ev_build); exact rfl; exact rfl; exact rfl; ((simp only [ZCS]); exact rfl); ((try simp only [LL]); exact rfl))
    | ((with_reducible apply ev_fieldAddr); exact rfl; exact rfl; exact rfl; exact rfl; ((try simp only [NG]); exact rfl))
    | ((with_reducible apply ev_buildSlice); exact rfl; exact rfl; ((simp only [ZCS]); exact rfl); exact rfl; ((try simp only [LL]); exact rfl))
    | ((with_reducible apply ev_indexAddr); exact rfl; exact rfl; exact rfl; (first | exact Nat.le_of_ble_eq_true rfl | assumption | omega); ((try simp only [LL]); exact rfl))
    | ((with_reducible apply ev_extract); exact rfl)
    | ((with_reducible apply ev_field); exact rfl; exact rfl; exact rfl; exact rfl; exact rfl)
    | ((with_reducible apply ev_condT); exact rfl)
    | ((with_reducible apply ev_condF); exact rfl)
    | ((with_reducible apply ev_test); exact veq_refl _ _ rfl)
    | ((with_reducible apply ev_ko); exact rfl)); try simp only [NB]))
    refine ev_ko2 (sync_no (h.ext (by (repeat (first | exact Ext.refl _ | assumption | refine Upd.put ?_ _ (.inr (by first | exact Nat.le_refl _ | ((try simp only [NX]); omega))) | refine Upd.new ?_ _ | refine Upd.gap ?_ _ | refine Upd.trans ?_ (by assumption)))))) ?_
    rintro v H' ⟨rfl, h1⟩
    have h1n := Upd.next h1; (try simp only [NX] at h1n)
    (repeat ((first
    | ((with_reducible apply ev_new); ((try simp only [LL]); exact rfl))
    | ((with_reducible apply ev_alloc); exact rfl; ((simp only [ZCS]); exact rfl))
    | ((with_reducible apply ev_load); exact rfl; exact rfl; (repeat (first | exact at_put_same _ _ _ | exact at_new_same _ _ | assumption | refine (at_gap _ _ _).trans ?_ | refine (at_new_ne (by (first | assumption | ((try simp only [NX]); omega)))).trans ?_ | refine (at_put_ne (by (first | assumption | ((try simp only [NX]); omega)))).trans ?_ | refine (Ext.at (by assumption) (by (first | assumption | ((try simp only [NX]); omega)))).trans ?_)); exact rfl)
    | ((with_reducible apply ev_loads); exact rfl; exact rfl; exact rfl; (repeat (first | exact at_put_same _ _ _ | exact at_new_same _ _ | assumption | refine (at_gap _ _ _).trans ?_ | refine (at_new_ne (by (first | assumption | ((try simp only [NX]); omega)))).trans ?_ | refine (at_put_ne (by (first | assumption | ((try simp only [NX]); omega)))).trans ?_ | refine (Ext.at (by assumption) (by (first | assumption | ((try simp only [NX]); omega)))).trans ?_)); exact Nat.le_of_ble_eq_true rfl; ((try simp only [LL]); exact rfl))
    | ((with_reducible apply ev_store); exact rfl; (repeat (first | exact at_put_same _ _ _ | exact at_new_same _ _ | assumption | refine (at_gap _ _ _).trans ?_ | refine (at_new_ne (by (first | assumption | ((try simp only [NX]); omega)))).trans ?_ | refine (at_put_ne (by (first | assumption | ((try simp only [NX]); omega)))).trans ?_ | refine (Ext.at (by assumption) (by (first | assumption | ((try simp only [NX]); omega)))).trans ?_)); ((try simp only [LL]); exact rfl); exact rfl; exact Nat.le_of_ble_eq_true rfl; exact rfl; ((try simp only [LL]); exact rfl))
    | ((with_reducible apply ev_build); exact rfl; exact rfl; exact rfl; ((simp only [ZCS]); exact rfl); ((try simp only [LL]); exact rfl))
    | ((with_reducible apply ev_fieldAddr); exact rfl; exact rfl; exact rfl; exact rfl; ((try simp only [NG]); exact rfl))
    | ((with_reducible apply ev_buildSlice); exact rfl; exact rfl; ((simp only [ZCS]); exact rfl); exact rfl; ((try simp only [LL]); exact rfl))
    | ((with_reducible apply ev_indexAddr); exact rfl; exact rfl; exact rfl; (first | exact Nat.le_of_ble_eq_true rfl | assumption | omega); ((try simp only [LL]); exact rfl))
    | ((with_reducible apply ev_extract); exact rfl)
    | ((with_reducible apply ev_field); exact rfl; exact rfl; exact rfl; exact rfl; exact rfl)
    | ((with_reducible apply ev_condT); exact rfl)
    | ((with_reducible apply ev_condF); exact rfl)
    | ((with_reducible apply ev_test); exact veq_refl _ _ rfl)
    | ((with_reducible apply ev_ko); exact rfl)); try simp only [NB]))
    exact ev_ret ⟨rfl, by (repeat (first | exact Ext.refl _ | assumption | refine Upd.put ?_ _ (.inr (by first | exact Nat.le_refl _ | ((try simp only [NX]); omega))) | refine Upd.new ?_ _ | refine Upd.gap ?_ _ | refine Upd.trans ?_ (by assumption)))⟩
  · (repeat ((first
    | ((with_reducible apply ev_new); ((try simp only [LL]); exact rfl))
    | ((with_reducible apply ev_alloc); exact rfl; ((simp only [ZCS]); exact rfl))
    | ((with_reducible apply ev_load); exact rfl; exact rfl; (repeat (first | exact at_put_same _ _ _ | exact at_new_same _ _ | assumption | refine (at_gap _ _ _).trans ?_ | refine (at_new_ne (by (first | assumption | ((try simp only [NX]); omega)))).trans ?_ | refine (at_put_ne (by (first | assumption | ((try simp only [NX]); omega)))).trans ?_ | refine (Ext.at (by assumption) (by (first | assumption | ((try simp only [NX]); omega)))).trans ?_)); exact rfl)
    | ((with_reducible apply ev_loads); exact rfl; exact rfl; exact rfl; (repeat (first | exact at_put_same _ _ _ | exact at_new_same _ _ | assumption | refine (at_gap _ _ _).trans ?_ | refine (at_new_ne (by (first | assumption | ((try simp only [NX]); omega)))).trans ?_ | refine (at_put_ne (by (first | assumption | ((try simp only [NX]); omega)))).trans ?_ | refine (Ext.at (by assumption) (by (first | assumption | ((try simp only [NX]); omega)))).trans ?_)); exact Nat.le_of_ble_eq_true rfl; ((try simp only [LL]); exact rfl))
    | ((with_reducible apply ev_store); exact rfl; (repeat (first | exact at_put_same _ _ _ | exact at_new_same _ _ | assumption | refine (at_gap _ _ _).trans ?_ | refine (at_new_ne (by (first | assumption | ((try simp only [NX]); omega)))).trans ?_ | refine (at_put_ne (by (first | assumption | ((try simp only [NX]); omega)))).trans ?_ | refine (Ext.at (by assumption) (by (first | assumption | ((try simp only [NX]); omega)))).trans ?_)); ((try simp only [LL]); exact rfl); exact rfl; exact Nat.le_of_ble_eq_true rfl; exact rfl; ((try simp only [LL]); exact rfl))
    | ((with_reducible apply ev_build); exact rfl; exact rfl; exact rfl; ((simp only [ZCS]); exact rfl); ((try simp only [LL]); exact rfl))
    | ((with_reducible apply ev_fieldAddr); exact rfl; exact rfl; exact rfl; exact rfl; ((try simp only [NG]); exact rfl))
    | ((with_reducible apply ev_buildSlice); exact rfl; exact rfl; ((simp only [ZCS]); exact rfl); exact rfl; ((try simp only [LL]); exact rfl))
    | ((with_reducible apply ev_indexAddr); exact rfl; exact rfl; exact rfl; (first | exact Nat.le_of_ble_eq_true rfl | assumption | omega); ((try simp only [LL]); exact rfl))
    | ((with_reducible apply ev_extract); exact rfl)
    | ((with_reducible apply ev_field); exact rfl; exact rfl; exact rfl; exact rfl; exact rfl)
    | ((with_reducible apply ev_condT); exact rfl)
    | ((with_reducible apply ev_condF); exact rfl)
    | ((with_reducible apply ev_test); exact veq_refl _ _ rfl)
    | ((with_reducible apply ev_ko); exact rfl)); try simp only [NB]))
    refine ev_ko2 (read_no (h.ext (by (repeat (first | exact Ext.refl _ | assumption | refine Upd.put ?_ _ (.inr (by first | exact Nat.le_refl _ | ((try simp only [NX]); omega))) | refine Upd.new ?_ _ | refine Upd.gap ?_ _ | refine Upd.trans ?_ (by assumption))))) _) ?_
    rintro v H' ⟨rfl, h1⟩
    have h1n := Upd.next h1; (try simp only [NX] at h1n)
    (repeat ((first
    | ((with_reducible apply ev_new); ((try simp only [LL]); exact rfl))
    | ((with_reducible apply ev_alloc); exact rfl; ((simp only [ZCS]); exact rfl))
    | ((with_reducible apply ev_load); exact rfl; exact rfl; (repeat (first | exact at_put_same _ _ _ | exact at_new_same _ _ | assumption | refine (at_gap _ _ _).trans ?_ | refine (at_new_ne (by (first | assumption | ((try simp only [NX]); omega)))).trans ?_ | refine (at_put_ne (by (first | assumption | ((try simp only [NX]); omega)))).trans ?_ | refine (Ext.at (by assumption) (by (first | assumption | ((try simp only [NX]); omega)))).trans ?_)); exact rfl)
    | ((with_reducible apply ev_loads); exact rfl; exact rfl; exact rfl; (repeat (first | exact at_put_same _ _ _ | exact at_new_same _ _ | assumption | refine (at_gap _ _ _).trans ?_ | refine (at_new_ne (by (first | assumption | ((try simp only [NX]); omega)))).trans ?_ | refine (at_put_ne (by (first | assumption | ((try simp only [NX]); omega)))).trans ?_ | refine (Ext.at (by assumption) (by (first | assumption | ((try simp only [NX]); omega)))).trans ?_)); exact Nat.le_of_ble_eq_true rfl; ((try simp only [LL]); exact rfl))
    | ((with_reducible apply ev_store); exact rfl; (repeat (first | exact at_put_same _ _ _ | exact at_new_same _ _ | assumption | refine (at_gap _ _ _).trans ?_ | refine (at_new_ne (by (first | assumption | ((try simp only [NX]); omega)))).trans ?_ | refine (at_put_ne (by (first | assumption | ((try simp only [NX]); omega)))).trans ?_ | refine (Ext.at (by assumption) (by (first | assumption | ((try simp only [NX]); omega)))).trans ?_)); ((try simp only [LL]); exact rfl); exact rfl; exact Nat.le_of_ble_eq_true rfl; exact rfl; ((try simp only [LL]); exact rfl))
    | ((with_reducible apply ev_build); exact rfl; exact rfl; exact rfl; ((simp only [ZCS]); exact rfl); ((try simp only [LL]); exact rfl))
    | ((with_reducible apply ev_fieldAddr); exact rfl; exact rfl; exact rfl; exact rfl; ((try simp only [NG]); exact rfl))
    | ((with_reducible apply ev_buildSlice); exact rfl; exact rfl; ((simp only [ZCS]); exact rfl); exact rfl; ((try simp only [LL]); exact rfl))
    | ((with_reducible apply ev_indexAddr); exact rfl; exact rfl; exact rfl; (first | exact Nat.le_of_ble_eq_true rfl | assumption | omega); ((try simp only [LL]); exact rfl))
    | ((with_reducible apply ev_extract); exact rfl)
    | ((with_reducible apply ev_field); exact rfl; exact rfl; exact rfl; exact rfl; exact rfl)
    | ((with_reducible apply ev_condT); exact rfl)
    | ((with_reducible apply ev_condF); exact rfl)
    | ((with_reducible apply ev_test); exact veq_refl _ _ rfl)
    | ((with_reducible apply ev_ko); exact rfl)); try simp only [NB]))
    exact ev_ret ⟨rfl, by (repeat (first | exact Ext.refl _ | assumption | refine Upd.put ?_ _ (.inr (by first | exact Nat.le_refl _ | ((try simp only [NX]); omega))) | refine Upd.new ?_ _ | refine Upd.gap ?_ _ | refine Upd.trans ?_ (by assumption)))⟩
  · (repeat ((first
    | ((with_reducible apply ev_new); ((try simp only [LL]); exact rfl))
    | ((with_reducible apply ev_alloc); exact rfl; ((simp only [ZCS]); exact rfl))
    | ((with_reducible apply ev_load); exact rfl; exact rfl; (repeat (first | exact at_put_same _ _ _ | exact at_new_same _ _ | assumption | refine (at_gap _ _ _).trans ?_ | refine (at_new_ne (by (first | assumption | ((try simp only [NX]); omega)))).trans ?_ | refine (at_put_ne (by (first | assumption | ((try simp only [NX]); omega)))).trans ?_ | refine (Ext.at (by assumption) (by (first | assumption | ((try simp only [NX]); omega)))).trans ?_)); exact rfl)
    | ((with_reducible apply ev_loads); exact rfl; exact rfl; exact rfl; (repeat (first | exact at_put_same _ _ _ | exact at_new_same _ _ | assumption | refine (at_gap _ _ _).trans ?_ | refine (at_new_ne (by (first | assumption | ((try simp only [NX]); omega)))).trans ?_ | refine (at_put_ne (by (first | assumption | ((try simp only [NX]); omega)))).trans ?_ | refine (Ext.at (by assumption) (by (first | assumption | ((try simp only [NX]); omega)))).trans ?_)); exact Nat.le_of_ble_eq_true rfl; ((try simp only [LL]); exact rfl))
    | ((with_reducible apply ev_store); exact rfl; (repeat (first | exact at_put_same _ _ _ | exact at_new_same _ _ | assumption | refine (at_gap _ _ _).trans ?_ | refine (at_new_ne (by (first | assumption | ((try simp only [NX]); omega)))).trans ?_ | refine (at_put_ne (by (first | assumption | ((try simp only [NX]); omega)))).trans ?_ | refine (Ext.at (by assumption) (by (first | assumption | ((try simp only [NX]); omega)))).trans ?_)); ((try simp only [LL]); exact rfl); exact rfl; exact Nat.le_of_ble_eq_true rfl; exact rfl; ((try simp only [LL]); exact rfl))
    | ((with_reducible apply ev_build); exact rfl; exact rfl; exact rfl; ((simp only [ZCS]); exact rfl); ((try simp only [LL]); exact rfl))
    | ((with_reducible apply ev_fieldAddr); exact rfl; exact rfl; exact rfl; exact rfl; ((try simp only [NG]); exact rfl))
    | ((with_reducible apply ev_buildSlice); exact rfl; exact rfl; ((simp only [ZCS]); exact rfl); exact rfl; ((try simp only [LL]); exact rfl))
    | ((with_reducible apply ev_indexAddr); exact rfl; exact rfl; exact rfl; (first | exact Nat.le_of_ble_eq_true rfl | assumption | omega); ((try simp only [LL]); exact rfl))
    | ((with_reducible apply ev_extract); exact rfl)
    | ((with_reducible apply ev_field); exact rfl; exact rfl; exact rfl; exact rfl; exact rfl)
    | ((with_reducible apply ev_condT); exact rfl)
    | ((with_reducible apply ev_condF); exact rfl)
    | ((with_reducible apply ev_test); exact veq_refl _ _ rfl)
    | ((with_reducible apply ev_ko); exact rfl)); try simp only [NB]))
    refine ev_ko2 (trunc_no (h.ext (by (repeat (first | exact Ext.refl _ | assumption | refine Upd.put ?_ _ (.inr (by first | exact Nat.le_refl _ | ((try simp only [NX]); omega))) | refine Upd.new ?_ _ | refine Upd.gap ?_ _ | refine Upd.trans ?_ (by assumption))))) _) ?_
    rintro v H' ⟨rfl, h1⟩
    have h1n := Upd.next h1; (try simp only [NX] at h1n)
    (repeat ((first
    | ((with_reducible apply ev_new); ((try simp only [LL]); exact rfl))
    | ((with_reducible apply ev_alloc); exact rfl; ((simp only [ZCS]); exact rfl))
    | ((with_reducible apply ev_load); exact rfl; exact rfl; (repeat (first | exact at_put_same _ _ _ | exact at_new_same _ _ | assumption | refine (at_gap _ _ _).trans ?_ | refine (at_new_ne (by (first | assumption | ((try simp only [NX]); omega)))).trans ?_ | refine (at_put_ne (by (first | assumption | ((try simp only [NX]); omega)))).trans ?_ | refine (Ext.at (by assumption) (by (first | assumption | ((try simp only [NX]); omega)))).trans ?_)); exact rfl)
    | ((with_reducible apply ev_loads); exact rfl; exact rfl; exact rfl; (repeat (first | exact at_put_same _ _ _ | exact at_new_same _ _ | assumption | refine (at_gap _ _ _).trans ?_ | refine (at_new_ne (by (first | assumption | ((try simp only [NX]); omega)))).trans ?_ | refine (at_put_ne (by (first | assumption | ((try simp only [NX]); omega)))).trans ?_ | refine (Ext.at (by assumption) (by (first | assumption | ((try simp only [NX]); omega)))).trans ?_)); exact Nat.le_of_ble_eq_true rfl; ((try simp only [LL]); exact rfl))
    | ((with_reducible apply ev_store); exact rfl; (repeat (first | exact at_put_same _ _ _ | exact at_new_same _ _ | assumption | refine (at_gap _ _ _).trans ?_ | refine (at_new_ne (by (first | assumption | ((try simp only [NX]); omega)))).trans ?_ | refine (at_put_ne (by (first | assumption | ((try simp only [NX]); omega)))).trans ?_ | refine (Ext.at (by assumption) (by (first | assumption | ((try simp only [NX]); omega)))).trans ?_)); ((try simp only [LL]); exact rfl); exact rfl; exact Nat.le_of_ble_eq_true rfl; exact rfl; ((try simp only [LL]); exact rfl))
    | ((with_reducible apply ev_build); exact rfl; exact rfl; exact rfl; ((simp only [ZCS]); exact rfl); ((try simp only [LL]); exact rfl))
    | ((with_reducible apply ev_fieldAddr); exact rfl; exact rfl; exact rfl; exact rfl; ((try simp only [NG]); exact rfl))
    | ((with_reducible apply ev_buildSlice); exact rfl; exact rfl; ((simp only [ZCS]); exact rfl); exact rfl; ((try simp only [LL]); exact rfl))
    | ((with_reducible apply ev_indexAddr); exact rfl; exact rfl; exact rfl; (first | exact Nat.le_of_ble_eq_true rfl | assumption | omega); ((try simp only [LL]); exact rfl))
    | ((with_reducible apply ev_extract); exact rfl)
    | ((with_reducible apply ev_field); exact rfl; exact rfl; exact rfl; exact rfl; exact rfl)
    | ((with_reducible apply ev_condT); exact rfl)
    | ((with_reducible apply ev_condF); exact rfl)
    | ((with_reducible apply ev_test); exact veq_refl _ _ rfl)
    | ((with_reducible apply ev_ko); exact rfl)); try simp only [NB]))
    exact ev_ret ⟨rfl, by (repeat (first | exact Ext.refl _ | assumption | refine Upd.put ?_ _ (.inr (by first | exact Nat.le_refl _ | ((try simp only [NX]); omega))) | refine Upd.new ?_ _ | refine Upd.gap ?_ _ | refine Upd.trans ?_ (by assumption)))⟩
  · (repeat ((first
    | ((with_reducible apply ev_new); ((try simp only [LL]); exact rfl))
    | ((with_reducible apply ev_alloc); exact rfl; ((simp only [ZCS]); exact rfl))
    | ((with_reducible apply ev_load); exact rfl; exact rfl; (repeat (first | exact at_put_same _ _ _ | exact at_new_same _ _ | assumption | refine (at_gap _ _ _).trans ?_ | refine (at_new_ne (by (first | assumption | ((try simp only [NX]); omega)))).trans ?_ | refine (at_put_ne (by (first | assumption | ((try simp only [NX]); omega)))).trans ?_ | refine (Ext.at (by assumption) (by (first | assumption | ((try simp only [NX]); omega)))).trans ?_)); exact rfl)
    | ((with_reducible apply ev_loads); exact rfl; exact rfl; exact rfl; (repeat (first | exact at_put_same _ _ _ | exact at_new_same _ _ | assumption | refine (at_gap _ _ _).trans ?_ | refine (at_new_ne (by (first | assumption | ((try simp only [NX]); omega)))).trans ?_ | refine (at_put_ne (by (first | assumption | ((try simp only [NX]); omega)))).trans ?_ | refine (Ext.at (by assumption) (by (first | assumption | ((try simp only [NX]); omega)))).trans ?_)); exact Nat.le_of_ble_eq_true rfl; ((try simp only [LL]); exact rfl))
    | ((with_reducible apply ev_store); exact rfl; (repeat (first | exact at_put_same _ _ _ | exact at_new_same _ _ | assumption | refine (at_gap _ _ _).trans ?_ | refine (at_new_ne (by (first | assumption | ((try simp only [NX]); omega)))).trans ?_ | refine (at_put_ne (by (first | assumption | ((try simp only [NX]); omega)))).trans ?_ | refine (Ext.at (by assumption) (by (first | assumption | ((try simp only [NX]); omega)))).trans ?_)); ((try simp only [LL]); exact rfl); exact rfl; exact Nat.le_of_ble_eq_true rfl; exact rfl; ((try simp only [LL]); exact rfl))
    | ((with_reducible apply ev_build); exact rfl; exact rfl; exact rfl; ((simp only [ZCS]); exact rfl); ((try simp only [LL]); exact rfl))
    | ((with_reducible apply ev_fieldAddr); exact rfl; exact rfl; exact rfl; exact rfl; ((try simp only [NG]); exact rfl))
    | ((with_reducible apply ev_buildSlice); exact rfl; exact rfl; ((simp only [ZCS]); exact rfl); exact rfl; ((try simp only [LL]); exact rfl))
    | ((with_reducible apply ev_indexAddr); exact rfl; exact rfl; exact rfl; (first | exact Nat.le_of_ble_eq_true rfl | assumption | omega); ((try simp only [LL]); exact rfl))
    | ((with_reducible apply ev_extract); exact rfl)
    | ((with_reducible apply ev_field); exact rfl; exact rfl; exact rfl; exact rfl; exact rfl)
    | ((with_reducible apply ev_condT); exact rfl)
    | ((with_reducible apply ev_condF); exact rfl)
    | ((with_reducible apply ev_test); exact veq_refl _ _ rfl)
    | ((with_reducible apply ev_ko); exact rfl)); try simp only [NB]))
    refine ev_ko2 (close_no (h.ext (by (repeat (first | exact Ext.refl _ | assumption | refine Upd.put ?_ _ (.inr (by first | exact Nat.le_refl _ | ((try simp only [NX]); omega))) | refine Upd.new ?_ _ | refine Upd.gap ?_ _ | refine Upd.trans ?_ (by assumption)))))) ?_
    rintro v H' ⟨rfl, h1⟩
    have h1n := Upd.next h1; (try simp only [NX] at h1n)
    (repeat ((first
    | ((with_reducible apply ev_new); ((try simp only [LL]); exact rfl))
    | ((with_reducible apply ev_alloc); exact rfl; ((simp only [ZCS]); exact rfl))
    | ((with_reducible apply ev_load); exact rfl; exact rfl; (repeat (first | exact at_put_same _ _ _ | exact at_new_same _ _ | assumption | refine (at_gap _ _ _).trans ?_ | refine (at_new_ne (by (first | assumption | ((try simp only [NX]); omega)))).trans ?_ | refine (at_put_ne (by (first | assumption | ((try simp only [NX]); omega)))).trans ?_ | refine (Ext.at (by assumption) (by (first | assumption | ((try simp only [NX]); omega)))).trans ?_)); exact rfl)
    | ((with_reducible apply ev_loads); exact rfl; exact rfl; exact rfl; (repeat (first | exact at_put_same _ _ _ | exact at_new_same _ _ | assumption | refine (at_gap _ _ _).trans ?_ | refine (at_new_ne (by (first | assumption | ((try simp only [NX]); omega)))).trans ?_ | refine (at_put_ne (by (first | assumption | ((try simp only [NX]); omega)))).trans ?_ | refine (Ext.at (by assumption) (by (first | assumption | ((try simp only [NX]); omega)))).trans ?_)); exact Nat.le_of_ble_eq_true rfl; ((try simp only [LL]); exact rfl))
    | ((with_reducible apply ev_store); exact rfl; (repeat (first | exact at_put_same _ _ _ | exact at_new_same _ _ | assumption | refine (at_gap _ _ _).trans ?_ | refine (at_new_ne (by (first | assumption | ((try simp only [NX]); omega)))).trans ?_ | refine (at_put_ne (by (first | assumption | ((try simp only [NX]); omega)))).trans ?_ | refine (Ext.at (by assumption) (by (first | assumption | ((try simp only [NX]); omega)))).trans ?_)); ((try simp only [LL]); exact rfl); exact rfl; exact Nat.le_of_ble_eq_true rfl; exact rfl; ((try simp only [LL]); exact rfl))
    | ((with_reducible apply ev_build); exact rfl; exact rfl; exact rfl; ((simp only [ZCS]); exact rfl); ((try simp only [LL]); exact rfl))
    | ((with_reducible apply ev_fieldAddr); exact rfl; exact rfl; exact rfl; exact rfl; ((try simp only [NG]); exact rfl))
    | ((with_reducible apply ev_buildSlice); exact rfl; exact rfl; ((simp only [ZCS]); exact rfl); exact rfl; ((try simp only [LL]); exact rfl))
    | ((with_reducible apply ev_indexAddr); exact rfl; exact rfl; exact rfl; (first | exact Nat.le_of_ble_eq_true rfl | assumption | omega); ((try simp only [LL]); exact rfl))
    | ((with_reducible apply ev_extract); exact rfl)
    | ((with_reducible apply ev_field); exact rfl; exact rfl; exact rfl; exact rfl; exact rfl)
    | ((with_reducible apply ev_condT); exact rfl)
    | ((with_reducible apply ev_condF); exact rfl)
    | ((with_reducible apply ev_test); exact veq_refl _ _ rfl)
    | ((with_reducible apply ev_ko); exact rfl)); try simp only [NB]))
    exact ev_ret ⟨rfl, by (repeat (first | exact Ext.refl _ | assumption | refine Upd.put ?_ _ (.inr (by first | exact Nat.le_refl _ | ((try simp only [NX]); omega))) | refine Upd.new ?_ _ | refine Upd.gap ?_ _ | refine Upd.trans ?_ (by assumption)))⟩
end Go.Proofs.YtiedaccgagnofaaGreat
