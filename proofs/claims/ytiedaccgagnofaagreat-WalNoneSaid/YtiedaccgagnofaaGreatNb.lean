/- A log that is none, or a zero one: its calls, over any objects. -/
import Derived.Test.YtiedaccgagnofaaGreatNa
namespace Go.Proofs.YtiedaccgagnofaaGreat
open Go.RowKit
set_option maxRecDepth 1000000

/-- No log, or a zero one. -/
def NoLog (H : LH) (lv : Value) : Prop := lv = .pointer none ∨ ∃ b, lv = .pointer (some ⟨b, 0, none⟩) ∧ b < H.next ∧ H.at b = some (.cells [.int .i32 0, .int .u32 0, .pointer none] 67 1)
theorem NoLog.ext {H H' : LH} {lv : Value} (h : NoLog H lv) (he : Ext H H') : NoLog H' lv := by
  rcases h with h | ⟨b, h1, h2, h3⟩
  · exact .inl h
  · exact .inr ⟨b, h1, Nat.lt_of_lt_of_le h2 he.next, (he.at h2).trans h3⟩

theorem there_no {n : Nat} {H : LH} {lv : Value} (h : NoLog H lv) : Ev (lcall CT (n + 1) 43 [lv] H) fun v H' => v = .bool false ∧ H' = H := by
  refine ev_l (fun _ => L43) ?_
  unfold R43
  rcases h with rfl | ⟨b, rfl, h2, h3⟩
  · (repeat ((first
    | ((with_reducible apply ev_new); ((try simp only [LL]); exact rfl))
    | ((with_reducible apply ev_alloc); exact rfl; ((simp only [ZCS]); exact rfl))
    | ((with_reducible apply ev_load); exact rfl; exact rfl; (repeat (first | exact at_put_same _ _ _ | exact at_new_same _ _ | assumption | refine (at_gap _ _ _).trans ?_ | refine (at_new_ne (by (first | assumption | ((try simp only [NX]); omega)))).trans ?_ | refine (at_put_ne (by (first | assumption | ((try simp only [NX]); omega)))).trans ?_ | refine (Ext.at (by assumption) (by (first | assumption | ((try simp only [NX]); omega)))).trans ?_)); exact rfl)
    | ((with_reducible apply ev_loads); exact rfl; exact rfl; exact rfl; (repeat (first | exact at_put_same _ _ _ | exact at_new_same _ _ | assumption | refine (at_gap _ _ _).trans ?_ | refine (at_new_ne (by (first | assumption | ((try simp only [NX]); omega)))).trans ?_ | refine (at_put_ne (by (first | assumption | ((try simp only [NX]); omega)))).trans ?_ | refine (Ext.at (by assumption) (by (first | assumption | ((try simp only [NX]); omega)))).trans ?_)); exact Nat.le_of_ble_eq_true rfl; ((try simp only [LL]); exact rfl))
    | ((with_reducible apply ev_store); exact rfl; (repeat (first | exact at_put_same _ _ _ | exact at_new_same _ _ | assumption | refine (at_gap _ _ _).trans ?_ | refine (at_new_ne (by (first | assumption | ((try simp only [NX]); omega)))).trans ?_ | refine (at_put_ne (by (first | assumption | ((try simp only [NX]); omega)))).trans ?_ | refine (Ext.at (by assumption) (by (first | assumption | ((try simp only [NX]); omega)))).trans ?_)); ((try simp only [LL]); exact rfl); exact rfl; exact Nat.le_of_ble_eq_true rfl; exact rfl; ((try simp only [LL]); exact rfl))
    | ((with_reducible apply ev_build); exact rfl; exact rfl; exact rfl; ((simp only [ZCS]); exact rfl); ((try simp only [LL]); exact rfl))
    | ((with_reducible apply ev_fieldAddr); exact rfl; exact rfl; exact rfl; exact rfl; ((try simp only [NG]); exact rfl))
    | ((with_reducible apply ev_buildSlice); exact rfl; exact rfl; ((simp only [ZCS]); exact rfl); exact rfl; ((try simp only [LL]); exact rfl))
    | ((with_reducible apply ev_indexAddr); exact rfl; exact rfl; exact rfl; (first | exact Nat.le_of_ble_eq_true rfl | assumption | omega); ((try simp only [LL]); exact rfl))
    | ((with_reducible apply ev_extract); exact rfl)
    | ((with_reducible apply ev_field); exact rfl; exact rfl; exact rfl; exact rfl; exact rfl)
    | ((with_reducible apply ev_condT); exact rfl)
    | ((with_reducible apply ev_condF); exact rfl)
    | ((with_reducible apply ev_test); exact veq_refl _ _ rfl)
    | ((with_reducible apply ev_ko); exact rfl)); try simp only [NB]))
    exact ev_ret ⟨rfl, rfl⟩
  · (repeat ((first
    | ((with_reducible apply ev_new); ((try simp only [LL]); exact rfl))
    | ((with_reducible apply ev_alloc); exact rfl; ((simp only [ZCS]); exact rfl))
    | ((with_reducible apply ev_load); exact rfl; exact rfl; (repeat (first | exact at_put_same _ _ _ | exact at_new_same _ _ | assumption | refine (at_gap _ _ _).trans ?_ | refine (at_new_ne (by (first | assumption | ((try simp only [NX]); omega)))).trans ?_ | refine (at_put_ne (by (first | assumption | ((try simp only [NX]); omega)))).trans ?_ | refine (Ext.at (by assumption) (by (first | assumption | ((try simp only [NX]); omega)))).trans ?_)); exact rfl)
    | ((with_reducible apply ev_loads); exact rfl; exact rfl; exact rfl; (repeat (first | exact at_put_same _ _ _ | exact at_new_same _ _ | assumption | refine (at_gap _ _ _).trans ?_ | refine (at_new_ne (by (first | assumption | ((try simp only [NX]); omega)))).trans ?_ | refine (at_put_ne (by (first | assumption | ((try simp only [NX]); omega)))).trans ?_ | refine (Ext.at (by assumption) (by (first | assumption | ((try simp only [NX]); omega)))).trans ?_)); exact Nat.le_of_ble_eq_true rfl; ((try simp only [LL]); exact rfl))
    | ((with_reducible apply ev_store); exact rfl; (repeat (first | exact at_put_same _ _ _ | exact at_new_same _ _ | assumption | refine (at_gap _ _ _).trans ?_ | refine (at_new_ne (by (first | assumption | ((try simp only [NX]); omega)))).trans ?_ | refine (at_put_ne (by (first | assumption | ((try simp only [NX]); omega)))).trans ?_ | refine (Ext.at (by assumption) (by (first | assumption | ((try simp only [NX]); omega)))).trans ?_)); ((try simp only [LL]); exact rfl); exact rfl; exact Nat.le_of_ble_eq_true rfl; exact rfl; ((try simp only [LL]); exact rfl))
    | ((with_reducible apply ev_build); exact rfl; exact rfl; exact rfl; ((simp only [ZCS]); exact rfl); ((try simp only [LL]); exact rfl))
    | ((with_reducible apply ev_fieldAddr); exact rfl; exact rfl; exact rfl; exact rfl; ((try simp only [NG]); exact rfl))
    | ((with_reducible apply ev_buildSlice); exact rfl; exact rfl; ((simp only [ZCS]); exact rfl); exact rfl; ((try simp only [LL]); exact rfl))
    | ((with_reducible apply ev_indexAddr); exact rfl; exact rfl; exact rfl; (first | exact Nat.le_of_ble_eq_true rfl | assumption | omega); ((try simp only [LL]); exact rfl))
    | ((with_reducible apply ev_extract); exact rfl)
    | ((with_reducible apply ev_field); exact rfl; exact rfl; exact rfl; exact rfl; exact rfl)
    | ((with_reducible apply ev_condT); exact rfl)
    | ((with_reducible apply ev_condF); exact rfl)
    | ((with_reducible apply ev_test); exact veq_refl _ _ rfl)
    | ((with_reducible apply ev_ko); exact rfl)); try simp only [NB]))
    exact ev_ret ⟨rfl, rfl⟩
theorem call_no {n : Nat} {H : LH} {lv : Value} (h : NoLog H lv) (k l : Int) (d : Value) : Ev (lcall CT (n + 2) 36 [lv, .agg #[.int .i64 k, .int .i64 l, d]] H) fun v H' => v = .agg #[.int .i64 41, .int .i64 0, .slice none 0 0] ∧ Ext H H' := by
  refine ev_l (fun _ => L36) ?_
  unfold R36
  (repeat ((first
    | ((with_reducible apply ev_new); ((try simp only [LL]); exact rfl))
    | ((with_reducible apply ev_alloc); exact rfl; ((simp only [ZCS]); exact rfl))
    | ((with_reducible apply ev_load); exact rfl; exact rfl; (repeat (first | exact at_put_same _ _ _ | exact at_new_same _ _ | assumption | refine (at_gap _ _ _).trans ?_ | refine (at_new_ne (by (first | assumption | ((try simp only [NX]); omega)))).trans ?_ | refine (at_put_ne (by (first | assumption | ((try simp only [NX]); omega)))).trans ?_ | refine (Ext.at (by assumption) (by (first | assumption | ((try simp only [NX]); omega)))).trans ?_)); exact rfl)
    | ((with_reducible apply ev_loads); exact rfl; exact rfl; exact rfl; (repeat (first | exact at_put_same _ _ _ | exact at_new_same _ _ | assumption | refine (at_gap _ _ _).trans ?_ | refine (at_new_ne (by (first | assumption | ((try simp only [NX]); omega)))).trans ?_ | refine (at_put_ne (by (first | assumption | ((try simp only [NX]); omega)))).trans ?_ | refine (Ext.at (by assumption) (by (first | assumption | ((try simp only [NX]); omega)))).trans ?_)); exact Nat.le_of_ble_eq_true rfl; ((try simp only [LL]); exact rfl))
    | ((with_reducible apply ev_store); exact rfl; (repeat (first | exact at_put_same _ _ _ | exact at_new_same _ _ | assumption | refine (at_gap _ _ _).trans ?_ | refine (at_new_ne (by (first | assumption | ((try simp only [NX]); omega)))).trans ?_ | refine (at_put_ne (by (first | assumption | ((try simp only [NX]); omega)))).trans ?_ | refine (Ext.at (by assumption) (by (first | assumption | ((try simp only [NX]); omega)))).trans ?_)); ((try simp only [LL]); exact rfl); exact rfl; exact Nat.le_of_ble_eq_true rfl; exact rfl; ((try simp only [LL]); exact rfl))
    | ((with_reducible apply ev_build); exact rfl; exact rfl; exact rfl; ((simp only [ZCS]); exact rfl); ((try simp only [LL]); exact rfl))
    | ((with_reducible apply ev_fieldAddr); exact rfl; exact rfl; exact rfl; exact rfl; ((try simp only [NG]); exact rfl))
    | ((with_reducible apply ev_buildSlice); exact rfl; exact rfl; ((simp only [ZCS]); exact rfl); exact rfl; ((try simp only [LL]); exact rfl))
    | ((with_reducible apply ev_indexAddr); exact rfl; exact rfl; exact rfl; (first | exact Nat.le_of_ble_eq_true rfl | assumption | omega); ((try simp only [LL]); exact rfl))
    | ((with_reducible apply ev_extract); exact rfl)
    | ((with_reducible apply ev_field); exact rfl; exact rfl; exact rfl; exact rfl; exact rfl)
    | ((with_reducible apply ev_condT); exact rfl)
    | ((with_reducible apply ev_condF); exact rfl)
    | ((with_reducible apply ev_test); exact veq_refl _ _ rfl)
    | ((with_reducible apply ev_ko); exact rfl)); try simp only [NB]))
  refine ev_ko2 (there_no (h.ext (by (repeat (first | exact Ext.refl _ | assumption | refine Upd.put ?_ _ (.inr (by first | exact Nat.le_refl _ | ((try simp only [NX]); omega))) | refine Upd.new ?_ _ | refine Upd.gap ?_ _ | refine Upd.trans ?_ (by assumption)))))) ?_
  rintro v H' ⟨rfl, rfl⟩
  (repeat ((first
    | ((with_reducible apply ev_new); ((try simp only [LL]); exact rfl))
    | ((with_reducible apply ev_alloc); exact rfl; ((simp only [ZCS]); exact rfl))
    | ((with_reducible apply ev_load); exact rfl; exact rfl; (repeat (first | exact at_put_same _ _ _ | exact at_new_same _ _ | assumption | refine (at_gap _ _ _).trans ?_ | refine (at_new_ne (by (first | assumption | ((try simp only [NX]); omega)))).trans ?_ | refine (at_put_ne (by (first | assumption | ((try simp only [NX]); omega)))).trans ?_ | refine (Ext.at (by assumption) (by (first | assumption | ((try simp only [NX]); omega)))).trans ?_)); exact rfl)
    | ((with_reducible apply ev_loads); exact rfl; exact rfl; exact rfl; (repeat (first | exact at_put_same _ _ _ | exact at_new_same _ _ | assumption | refine (at_gap _ _ _).trans ?_ | refine (at_new_ne (by (first | assumption | ((try simp only [NX]); omega)))).trans ?_ | refine (at_put_ne (by (first | assumption | ((try simp only [NX]); omega)))).trans ?_ | refine (Ext.at (by assumption) (by (first | assumption | ((try simp only [NX]); omega)))).trans ?_)); exact Nat.le_of_ble_eq_true rfl; ((try simp only [LL]); exact rfl))
    | ((with_reducible apply ev_store); exact rfl; (repeat (first | exact at_put_same _ _ _ | exact at_new_same _ _ | assumption | refine (at_gap _ _ _).trans ?_ | refine (at_new_ne (by (first | assumption | ((try simp only [NX]); omega)))).trans ?_ | refine (at_put_ne (by (first | assumption | ((try simp only [NX]); omega)))).trans ?_ | refine (Ext.at (by assumption) (by (first | assumption | ((try simp only [NX]); omega)))).trans ?_)); ((try simp only [LL]); exact rfl); exact rfl; exact Nat.le_of_ble_eq_true rfl; exact rfl; ((try simp only [LL]); exact rfl))
    | ((with_reducible apply ev_build); exact rfl; exact rfl; exact rfl; ((simp only [ZCS]); exact rfl); ((try simp only [LL]); exact rfl))
    | ((with_reducible apply ev_fieldAddr); exact rfl; exact rfl; exact rfl; exact rfl; ((try simp only [NG]); exact rfl))
    | ((with_reducible apply ev_buildSlice); exact rfl; exact rfl; ((simp only [ZCS]); exact rfl); exact rfl; ((try simp only [LL]); exact rfl))
    | ((with_reducible apply ev_indexAddr); exact rfl; exact rfl; exact rfl; (first | exact Nat.le_of_ble_eq_true rfl | assumption | omega); ((try simp only [LL]); exact rfl))
    | ((with_reducible apply ev_extract); exact rfl)
    | ((with_reducible apply ev_field); exact rfl; exact rfl; exact rfl; exact rfl; exact rfl)
    | ((with_reducible apply ev_condT); exact rfl)
    | ((with_reducible apply ev_condF); exact rfl)
    | ((with_reducible apply ev_test); exact veq_refl _ _ rfl)
    | ((with_reducible apply ev_ko); exact rfl)); try simp only [NB]))
  exact ev_ret ⟨rfl, by (repeat (first | exact Ext.refl _ | assumption | refine Upd.put ?_ _ (.inr (by first | exact Nat.le_refl _ | ((try simp only [NX]); omega))) | refine Upd.new ?_ _ | refine Upd.gap ?_ _ | refine Upd.trans ?_ (by assumption)))⟩
theorem number_err {n : Nat} {H : LH} (d : Value) (l : Int) : Ev (lcall CT (n + 1) 35 [.agg #[.int .i64 41, .int .i64 l, d]] H) fun v H' => v = .tuple #[.int .i64 0, .int .i64 41] ∧ Ext H H' := by
  refine ev_l (fun _ => L35) ?_
  unfold R35
  (repeat ((first
    | ((with_reducible apply ev_new); ((try simp only [LL]); exact rfl))
    | ((with_reducible apply ev_alloc); exact rfl; ((simp only [ZCS]); exact rfl))
    | ((with_reducible apply ev_load); exact rfl; exact rfl; (repeat (first | exact at_put_same _ _ _ | exact at_new_same _ _ | assumption | refine (at_gap _ _ _).trans ?_ | refine (at_new_ne (by (first | assumption | ((try simp only [NX]); omega)))).trans ?_ | refine (at_put_ne (by (first | assumption | ((try simp only [NX]); omega)))).trans ?_ | refine (Ext.at (by assumption) (by (first | assumption | ((try simp only [NX]); omega)))).trans ?_)); exact rfl)
    | ((with_reducible apply ev_loads); exact rfl; exact rfl; exact rfl; (repeat (first | exact at_put_same _ _ _ | exact at_new_same _ _ | assumption | refine (at_gap _ _ _).trans ?_ | refine (at_new_ne (by (first | assumption | ((try simp only [NX]); omega)))).trans ?_ | refine (at_put_ne (by (first | assumption | ((try simp only [NX]); omega)))).trans ?_ | refine (Ext.at (by assumption) (by (first | assumption | ((try simp only [NX]); omega)))).trans ?_)); exact Nat.le_of_ble_eq_true rfl; ((try simp only [LL]); exact rfl))
    | ((with_reducible apply ev_store); exact rfl; (repeat (first | exact at_put_same _ _ _ | exact at_new_same _ _ | assumption | refine (at_gap _ _ _).trans ?_ | refine (at_new_ne (by (first | assumption | ((try simp only [NX]); omega)))).trans ?_ | refine (at_put_ne (by (first | assumption | ((try simp only [NX]); omega)))).trans ?_ | refine (Ext.at (by assumption) (by (first | assumption | ((try simp only [NX]); omega)))).trans ?_)); ((try simp only [LL]); exact rfl); exact rfl; exact Nat.le_of_ble_eq_true rfl; exact rfl; ((try simp only [LL]); exact rfl))
    | ((with_reducible apply ev_build); exact rfl; exact rfl; exact rfl; ((simp only [ZCS]); exact rfl); ((try simp only [LL]); exact rfl))
    | ((with_reducible apply ev_fieldAddr); exact rfl; exact rfl; exact rfl; exact rfl; ((try simp only [NG]); exact rfl))
    | ((with_reducible apply ev_buildSlice); exact rfl; exact rfl; ((simp only [ZCS]); exact rfl); exact rfl; ((try simp only [LL]); exact rfl))
    | ((with_reducible apply ev_indexAddr); exact rfl; exact rfl; exact rfl; (first | exact Nat.le_of_ble_eq_true rfl | assumption | omega); ((try simp only [LL]); exact rfl))
    | ((with_reducible apply ev_extract); exact rfl)
    | ((with_reducible apply ev_field); exact rfl; exact rfl; exact rfl; exact rfl; exact rfl)
    | ((with_reducible apply ev_condT); exact rfl)
    | ((with_reducible apply ev_condF); exact rfl)
    | ((with_reducible apply ev_test); exact veq_refl _ _ rfl)
    | ((with_reducible apply ev_ko); exact rfl)); try simp only [NB]))
  exact ev_ret ⟨rfl, by (repeat (first | exact Ext.refl _ | assumption | refine Upd.put ?_ _ (.inr (by first | exact Nat.le_refl _ | ((try simp only [NX]); omega))) | refine Upd.new ?_ _ | refine Upd.gap ?_ _ | refine Upd.trans ?_ (by assumption)))⟩
theorem record_err {n : Nat} {H : LH} (d : Value) (l : Int) : Ev (lcall CT (n + 1) 63 [.agg #[.int .i64 41, .int .i64 l, d]] H) fun v H' => v = .tuple #[.agg #[.int .i64 0, .slice none 0 0], .int .i64 41] ∧ Ext H H' := by
  refine ev_l (fun _ => L63) ?_
  unfold R63
  (repeat ((first
    | ((with_reducible apply ev_new); ((try simp only [LL]); exact rfl))
    | ((with_reducible apply ev_alloc); exact rfl; ((simp only [ZCS]); exact rfl))
    | ((with_reducible apply ev_load); exact rfl; exact rfl; (repeat (first | exact at_put_same _ _ _ | exact at_new_same _ _ | assumption | refine (at_gap _ _ _).trans ?_ | refine (at_new_ne (by (first | assumption | ((try simp only [NX]); omega)))).trans ?_ | refine (at_put_ne (by (first | assumption | ((try simp only [NX]); omega)))).trans ?_ | refine (Ext.at (by assumption) (by (first | assumption | ((try simp only [NX]); omega)))).trans ?_)); exact rfl)
    | ((with_reducible apply ev_loads); exact rfl; exact rfl; exact rfl; (repeat (first | exact at_put_same _ _ _ | exact at_new_same _ _ | assumption | refine (at_gap _ _ _).trans ?_ | refine (at_new_ne (by (first | assumption | ((try simp only [NX]); omega)))).trans ?_ | refine (at_put_ne (by (first | assumption | ((try simp only [NX]); omega)))).trans ?_ | refine (Ext.at (by assumption) (by (first | assumption | ((try simp only [NX]); omega)))).trans ?_)); exact Nat.le_of_ble_eq_true rfl; ((try simp only [LL]); exact rfl))
    | ((with_reducible apply ev_store); exact rfl; (repeat (first | exact at_put_same _ _ _ | exact at_new_same _ _ | assumption | refine (at_gap _ _ _).trans ?_ | refine (at_new_ne (by (first | assumption | ((try simp only [NX]); omega)))).trans ?_ | refine (at_put_ne (by (first | assumption | ((try simp only [NX]); omega)))).trans ?_ | refine (Ext.at (by assumption) (by (first | assumption | ((try simp only [NX]); omega)))).trans ?_)); ((try simp only [LL]); exact rfl); exact rfl; exact Nat.le_of_ble_eq_true rfl; exact rfl; ((try simp only [LL]); exact rfl))
    | ((with_reducible apply ev_build); exact rfl; exact rfl; exact rfl; ((simp only [ZCS]); exact rfl); ((try simp only [LL]); exact rfl))
    | ((with_reducible apply ev_fieldAddr); exact rfl; exact rfl; exact rfl; exact rfl; ((try simp only [NG]); exact rfl))
    | ((with_reducible apply ev_buildSlice); exact rfl; exact rfl; ((simp only [ZCS]); exact rfl); exact rfl; ((try simp only [LL]); exact rfl))
    | ((with_reducible apply ev_indexAddr); exact rfl; exact rfl; exact rfl; (first | exact Nat.le_of_ble_eq_true rfl | assumption | omega); ((try simp only [LL]); exact rfl))
    | ((with_reducible apply ev_extract); exact rfl)
    | ((with_reducible apply ev_field); exact rfl; exact rfl; exact rfl; exact rfl; exact rfl)
    | ((with_reducible apply ev_condT); exact rfl)
    | ((with_reducible apply ev_condF); exact rfl)
    | ((with_reducible apply ev_test); exact veq_refl _ _ rfl)
    | ((with_reducible apply ev_ko); exact rfl)); try simp only [NB]))
  exact ev_ret ⟨rfl, by (repeat (first | exact Ext.refl _ | assumption | refine Upd.put ?_ _ (.inr (by first | exact Nat.le_refl _ | ((try simp only [NX]); omega))) | refine Upd.new ?_ _ | refine Upd.gap ?_ _ | refine Upd.trans ?_ (by assumption)))⟩


theorem append_no {n : Nat} {H : LH} {lv : Value} (h : NoLog H lv) (p : Option Addr) (m c : Nat) : Ev (lcall CT (n + 3) 33 [lv, .slice p m c] H) fun v H' => v = .tuple #[.int .i64 0, .int .i64 41] ∧ Ext H H' := by
  refine ev_l (fun _ => L33) ?_
  unfold R33
  (repeat ((first
    | ((with_reducible apply ev_new); ((try simp only [LL]); exact rfl))
    | ((with_reducible apply ev_alloc); exact rfl; ((simp only [ZCS]); exact rfl))
    | ((with_reducible apply ev_load); exact rfl; exact rfl; (repeat (first | exact at_put_same _ _ _ | exact at_new_same _ _ | assumption | refine (at_gap _ _ _).trans ?_ | refine (at_new_ne (by (first | assumption | ((try simp only [NX]); omega)))).trans ?_ | refine (at_put_ne (by (first | assumption | ((try simp only [NX]); omega)))).trans ?_ | refine (Ext.at (by assumption) (by (first | assumption | ((try simp only [NX]); omega)))).trans ?_)); exact rfl)
    | ((with_reducible apply ev_loads); exact rfl; exact rfl; exact rfl; (repeat (first | exact at_put_same _ _ _ | exact at_new_same _ _ | assumption | refine (at_gap _ _ _).trans ?_ | refine (at_new_ne (by (first | assumption | ((try simp only [NX]); omega)))).trans ?_ | refine (at_put_ne (by (first | assumption | ((try simp only [NX]); omega)))).trans ?_ | refine (Ext.at (by assumption) (by (first | assumption | ((try simp only [NX]); omega)))).trans ?_)); exact Nat.le_of_ble_eq_true rfl; ((try simp only [LL]); exact rfl))
    | ((with_reducible apply ev_store); exact rfl; (repeat (first | exact at_put_same _ _ _ | exact at_new_same _ _ | assumption | refine (at_gap _ _ _).trans ?_ | refine (at_new_ne (by (first | assumption | ((try simp only [NX]); omega)))).trans ?_ | refine (at_put_ne (by (first | assumption | ((try simp only [NX]); omega)))).trans ?_ | refine (Ext.at (by assumption) (by (first | assumption | ((try simp only [NX]); omega)))).trans ?_)); ((try simp only [LL]); exact rfl); exact rfl; exact Nat.le_of_ble_eq_true rfl; exact rfl; ((try simp only [LL]); exact rfl))
    | ((with_reducible apply ev_build); exact rfl; exact rfl; exact rfl; ((simp only [ZCS]); exact rfl); ((try simp only [LL]); exact rfl))
    | ((with_reducible apply ev_fieldAddr); exact rfl; exact rfl; exact rfl; exact rfl; ((try simp only [NG]); exact rfl))
    | ((with_reducible apply ev_buildSlice); exact rfl; exact rfl; ((simp only [ZCS]); exact rfl); exact rfl; ((try simp only [LL]); exact rfl))
    | ((with_reducible apply ev_indexAddr); exact rfl; exact rfl; exact rfl; (first | exact Nat.le_of_ble_eq_true rfl | assumption | omega); ((try simp only [LL]); exact rfl))
    | ((with_reducible apply ev_extract); exact rfl)
    | ((with_reducible apply ev_field); exact rfl; exact rfl; exact rfl; exact rfl; exact rfl)
    | ((with_reducible apply ev_condT); exact rfl)
    | ((with_reducible apply ev_condF); exact rfl)
    | ((with_reducible apply ev_test); exact veq_refl _ _ rfl)
    | ((with_reducible apply ev_ko); exact rfl)); try simp only [NB]))
  refine ev_ko2 (call_no h _ _ _) ?_
  rintro v H' ⟨rfl, h1⟩
  refine ev_ko2 (number_err _ _) ?_
  rintro v H2 ⟨rfl, h2⟩
  have h2n := Upd.next h2; (try simp only [NX] at h2n)
  (repeat ((first
    | ((with_reducible apply ev_new); ((try simp only [LL]); exact rfl))
    | ((with_reducible apply ev_alloc); exact rfl; ((simp only [ZCS]); exact rfl))
    | ((with_reducible apply ev_load); exact rfl; exact rfl; (repeat (first | exact at_put_same _ _ _ | exact at_new_same _ _ | assumption | refine (at_gap _ _ _).trans ?_ | refine (at_new_ne (by (first | assumption | ((try simp only [NX]); omega)))).trans ?_ | refine (at_put_ne (by (first | assumption | ((try simp only [NX]); omega)))).trans ?_ | refine (Ext.at (by assumption) (by (first | assumption | ((try simp only [NX]); omega)))).trans ?_)); exact rfl)
    | ((with_reducible apply ev_loads); exact rfl; exact rfl; exact rfl; (repeat (first | exact at_put_same _ _ _ | exact at_new_same _ _ | assumption | refine (at_gap _ _ _).trans ?_ | refine (at_new_ne (by (first | assumption | ((try simp only [NX]); omega)))).trans ?_ | refine (at_put_ne (by (first | assumption | ((try simp only [NX]); omega)))).trans ?_ | refine (Ext.at (by assumption) (by (first | assumption | ((try simp only [NX]); omega)))).trans ?_)); exact Nat.le_of_ble_eq_true rfl; ((try simp only [LL]); exact rfl))
    | ((with_reducible apply ev_store); exact rfl; (repeat (first | exact at_put_same _ _ _ | exact at_new_same _ _ | assumption | refine (at_gap _ _ _).trans ?_ | refine (at_new_ne (by (first | assumption | ((try simp only [NX]); omega)))).trans ?_ | refine (at_put_ne (by (first | assumption | ((try simp only [NX]); omega)))).trans ?_ | refine (Ext.at (by assumption) (by (first | assumption | ((try simp only [NX]); omega)))).trans ?_)); ((try simp only [LL]); exact rfl); exact rfl; exact Nat.le_of_ble_eq_true rfl; exact rfl; ((try simp only [LL]); exact rfl))
    | ((with_reducible apply ev_build); exact rfl; exact rfl; exact rfl; ((simp only [ZCS]); exact rfl); ((try simp only [LL]); exact rfl))
    | ((with_reducible apply ev_fieldAddr); exact rfl; exact rfl; exact rfl; exact rfl; ((try simp only [NG]); exact rfl))
    | ((with_reducible apply ev_buildSlice); exact rfl; exact rfl; ((simp only [ZCS]); exact rfl); exact rfl; ((try simp only [LL]); exact rfl))
    | ((with_reducible apply ev_indexAddr); exact rfl; exact rfl; exact rfl; (first | exact Nat.le_of_ble_eq_true rfl | assumption | omega); ((try simp only [LL]); exact rfl))
    | ((with_reducible apply ev_extract); exact rfl)
    | ((with_reducible apply ev_field); exact rfl; exact rfl; exact rfl; exact rfl; exact rfl)
    | ((with_reducible apply ev_condT); exact rfl)
    | ((with_reducible apply ev_condF); exact rfl)
    | ((with_reducible apply ev_test); exact veq_refl _ _ rfl)
    | ((with_reducible apply ev_ko); exact rfl)); try simp only [NB]))
  exact ev_ret ⟨rfl, by (repeat (first | exact Ext.refl _ | assumption | refine Upd.put ?_ _ (.inr (by first | exact Nat.le_refl _ | ((try simp only [NX]); omega))) | refine Upd.new ?_ _ | refine Upd.gap ?_ _ | refine Upd.trans ?_ (by assumption)))⟩
theorem async_no {n : Nat} {H : LH} {lv : Value} (h : NoLog H lv) (p : Option Addr) (m c : Nat) : Ev (lcall CT (n + 3) 13 [lv, .slice p m c] H) fun v H' => v = .tuple #[.int .i64 0, .int .i64 41] ∧ Ext H H' := by
  refine ev_l (fun _ => L13) ?_
  unfold R13
  (repeat ((first
    | ((with_reducible apply ev_new); ((try simp only [LL]); exact rfl))
    | ((with_reducible apply ev_alloc); exact rfl; ((simp only [ZCS]); exact rfl))
    | ((with_reducible apply ev_load); exact rfl; exact rfl; (repeat (first | exact at_put_same _ _ _ | exact at_new_same _ _ | assumption | refine (at_gap _ _ _).trans ?_ | refine (at_new_ne (by (first | assumption | ((try simp only [NX]); omega)))).trans ?_ | refine (at_put_ne (by (first | assumption | ((try simp only [NX]); omega)))).trans ?_ | refine (Ext.at (by assumption) (by (first | assumption | ((try simp only [NX]); omega)))).trans ?_)); exact rfl)
    | ((with_reducible apply ev_loads); exact rfl; exact rfl; exact rfl; (repeat (first | exact at_put_same _ _ _ | exact at_new_same _ _ | assumption | refine (at_gap _ _ _).trans ?_ | refine (at_new_ne (by (first | assumption | ((try simp only [NX]); omega)))).trans ?_ | refine (at_put_ne (by (first | assumption | ((try simp only [NX]); omega)))).trans ?_ | refine (Ext.at (by assumption) (by (first | assumption | ((try simp only [NX]); omega)))).trans ?_)); exact Nat.le_of_ble_eq_true rfl; ((try simp only [LL]); exact rfl))
    | ((with_reducible apply ev_store); exact rfl; (repeat (first | exact at_put_same _ _ _ | exact at_new_same _ _ | assumption | refine (at_gap _ _ _).trans ?_ | refine (at_new_ne (by (first | assumption | ((try simp only [NX]); omega)))).trans ?_ | refine (at_put_ne (by (first | assumption | ((try simp only [NX]); omega)))).trans ?_ | refine (Ext.at (by assumption) (by (first | assumption | ((try simp only [NX]); omega)))).trans ?_)); ((try simp only [LL]); exact rfl); exact rfl; exact Nat.le_of_ble_eq_true rfl; exact rfl; ((try simp only [LL]); exact rfl))
    | ((with_reducible apply ev_build); exact rfl; exact rfl; exact rfl; ((simp only [ZCS]); exact rfl); ((try simp only [LL]); exact rfl))
    | ((with_reducible apply ev_fieldAddr); exact rfl; exact rfl; exact rfl; exact rfl; ((try simp only [NG]); exact rfl))
    | ((with_reducible apply ev_buildSlice); exact rfl; exact rfl; ((simp only [ZCS]); exact rfl); exact rfl; ((try simp only [LL]); exact rfl))
    | ((with_reducible apply ev_indexAddr); exact rfl; exact rfl; exact rfl; (first | exact Nat.le_of_ble_eq_true rfl | assumption | omega); ((try simp only [LL]); exact rfl))
    | ((with_reducible apply ev_extract); exact rfl)
    | ((with_reducible apply ev_field); exact rfl; exact rfl; exact rfl; exact rfl; exact rfl)
    | ((with_reducible apply ev_condT); exact rfl)
    | ((with_reducible apply ev_condF); exact rfl)
    | ((with_reducible apply ev_test); exact veq_refl _ _ rfl)
    | ((with_reducible apply ev_ko); exact rfl)); try simp only [NB]))
  refine ev_ko2 (call_no h _ _ _) ?_
  rintro v H' ⟨rfl, h1⟩
  refine ev_ko2 (number_err _ _) ?_
  rintro v H2 ⟨rfl, h2⟩
  have h2n := Upd.next h2; (try simp only [NX] at h2n)
  (repeat ((first
    | ((with_reducible apply ev_new); ((try simp only [LL]); exact rfl))
    | ((with_reducible apply ev_alloc); exact rfl; ((simp only [ZCS]); exact rfl))
    | ((with_reducible apply ev_load); exact rfl; exact rfl; (repeat (first | exact at_put_same _ _ _ | exact at_new_same _ _ | assumption | refine (at_gap _ _ _).trans ?_ | refine (at_new_ne (by (first | assumption | ((try simp only [NX]); omega)))).trans ?_ | refine (at_put_ne (by (first | assumption | ((try simp only [NX]); omega)))).trans ?_ | refine (Ext.at (by assumption) (by (first | assumption | ((try simp only [NX]); omega)))).trans ?_)); exact rfl)
    | ((with_reducible apply ev_loads); exact rfl; exact rfl; exact rfl; (repeat (first | exact at_put_same _ _ _ | exact at_new_same _ _ | assumption | refine (at_gap _ _ _).trans ?_ | refine (at_new_ne (by (first | assumption | ((try simp only [NX]); omega)))).trans ?_ | refine (at_put_ne (by (first | assumption | ((try simp only [NX]); omega)))).trans ?_ | refine (Ext.at (by assumption) (by (first | assumption | ((try simp only [NX]); omega)))).trans ?_)); exact Nat.le_of_ble_eq_true rfl; ((try simp only [LL]); exact rfl))
    | ((with_reducible apply ev_store); exact rfl; (repeat (first | exact at_put_same _ _ _ | exact at_new_same _ _ | assumption | refine (at_gap _ _ _).trans ?_ | refine (at_new_ne (by (first | assumption | ((try simp only [NX]); omega)))).trans ?_ | refine (at_put_ne (by (first | assumption | ((try simp only [NX]); omega)))).trans ?_ | refine (Ext.at (by assumption) (by (first | assumption | ((try simp only [NX]); omega)))).trans ?_)); ((try simp only [LL]); exact rfl); exact rfl; exact Nat.le_of_ble_eq_true rfl; exact rfl; ((try simp only [LL]); exact rfl))
    | ((with_reducible apply ev_build); exact rfl; exact rfl; exact rfl; ((simp only [ZCS]); exact rfl); ((try simp only [LL]); exact rfl))
    | ((with_reducible apply ev_fieldAddr); exact rfl; exact rfl; exact rfl; exact rfl; ((try simp only [NG]); exact rfl))
    | ((with_reducible apply ev_buildSlice); exact rfl; exact rfl; ((simp only [ZCS]); exact rfl); exact rfl; ((try simp only [LL]); exact rfl))
    | ((with_reducible apply ev_indexAddr); exact rfl; exact rfl; exact rfl; (first | exact Nat.le_of_ble_eq_true rfl | assumption | omega); ((try simp only [LL]); exact rfl))
    | ((with_reducible apply ev_extract); exact rfl)
    | ((with_reducible apply ev_field); exact rfl; exact rfl; exact rfl; exact rfl; exact rfl)
    | ((with_reducible apply ev_condT); exact rfl)
    | ((with_reducible apply ev_condF); exact rfl)
    | ((with_reducible apply ev_test); exact veq_refl _ _ rfl)
    | ((with_reducible apply ev_ko); exact rfl)); try simp only [NB]))
  exact ev_ret ⟨rfl, by (repeat (first | exact Ext.refl _ | assumption | refine Upd.put ?_ _ (.inr (by first | exact Nat.le_refl _ | ((try simp only [NX]); omega))) | refine Upd.new ?_ _ | refine Upd.gap ?_ _ | refine Upd.trans ?_ (by assumption)))⟩
theorem sync_no {n : Nat} {H : LH} {lv : Value} (h : NoLog H lv) : Ev (lcall CT (n + 3) 17 [lv] H) fun v H' => v = .int .i64 41 ∧ Ext H H' := by
  refine ev_l (fun _ => L17) ?_
  unfold R17
  (repeat ((first
    | ((with_reducible apply ev_new); ((try simp only [LL]); exact rfl))
    | ((with_reducible apply ev_alloc); exact rfl; ((simp only [ZCS]); exact rfl))
    | ((with_reducible apply ev_load); exact rfl; exact rfl; (repeat (first | exact at_put_same _ _ _ | exact at_new_same _ _ | assumption | refine (at_gap _ _ _).trans ?_ | refine (at_new_ne (by (first | assumption | ((try simp only [NX]); omega)))).trans ?_ | refine (at_put_ne (by (first | assumption | ((try simp only [NX]); omega)))).trans ?_ | refine (Ext.at (by assumption) (by (first | assumption | ((try simp only [NX]); omega)))).trans ?_)); exact rfl)
    | ((with_reducible apply ev_loads); exact rfl; exact rfl; exact rfl; (repeat (first | exact at_put_same _ _ _ | exact at_new_same _ _ | assumption | refine (at_gap _ _ _).trans ?_ | refine (at_new_ne (by (first | assumption | ((try simp only [NX]); omega)))).trans ?_ | refine (at_put_ne (by (first | assumption | ((try simp only [NX]); omega)))).trans ?_ | refine (Ext.at (by assumption) (by (first | assumption | ((try simp only [NX]); omega)))).trans ?_)); exact Nat.le_of_ble_eq_true rfl; ((try simp only [LL]); exact rfl))
    | ((with_reducible apply ev_store); exact rfl; (repeat (first | exact at_put_same _ _ _ | exact at_new_same _ _ | assumption | refine (at_gap _ _ _).trans ?_ | refine (at_new_ne (by (first | assumption | ((try simp only [NX]); omega)))).trans ?_ | refine (at_put_ne (by (first | assumption | ((try simp only [NX]); omega)))).trans ?_ | refine (Ext.at (by assumption) (by (first | assumption | ((try simp only [NX]); omega)))).trans ?_)); ((try simp only [LL]); exact rfl); exact rfl; exact Nat.le_of_ble_eq_true rfl; exact rfl; ((try simp only [LL]); exact rfl))
    | ((with_reducible apply ev_build); exact rfl; exact rfl; exact rfl; ((simp only [ZCS]); exact rfl); ((try simp only [LL]); exact rfl))
    | ((with_reducible apply ev_fieldAddr); exact rfl; exact rfl; exact rfl; exact rfl; ((try simp only [NG]); exact rfl))
    | ((with_reducible apply ev_buildSlice); exact rfl; exact rfl; ((simp only [ZCS]); exact rfl); exact rfl; ((try simp only [LL]); exact rfl))
    | ((with_reducible apply ev_indexAddr); exact rfl; exact rfl; exact rfl; (first | exact Nat.le_of_ble_eq_true rfl | assumption | omega); ((try simp only [LL]); exact rfl))
    | ((with_reducible apply ev_extract); exact rfl)
    | ((with_reducible apply ev_field); exact rfl; exact rfl; exact rfl; exact rfl; exact rfl)
    | ((with_reducible apply ev_condT); exact rfl)
    | ((with_reducible apply ev_condF); exact rfl)
    | ((with_reducible apply ev_test); exact veq_refl _ _ rfl)
    | ((with_reducible apply ev_ko); exact rfl)); try simp only [NB]))
  refine ev_ko2 (call_no h _ _ _) ?_
  rintro v H' ⟨rfl, h1⟩
  (repeat ((first
    | ((with_reducible apply ev_new); ((try simp only [LL]); exact rfl))
    | ((with_reducible apply ev_alloc); exact rfl; ((simp only [ZCS]); exact rfl))
    | ((with_reducible apply ev_load); exact rfl; exact rfl; (repeat (first | exact at_put_same _ _ _ | exact at_new_same _ _ | assumption | refine (at_gap _ _ _).trans ?_ | refine (at_new_ne (by (first | assumption | ((try simp only [NX]); omega)))).trans ?_ | refine (at_put_ne (by (first | assumption | ((try simp only [NX]); omega)))).trans ?_ | refine (Ext.at (by assumption) (by (first | assumption | ((try simp only [NX]); omega)))).trans ?_)); exact rfl)
    | ((with_reducible apply ev_loads); exact rfl; exact rfl; exact rfl; (repeat (first | exact at_put_same _ _ _ | exact at_new_same _ _ | assumption | refine (at_gap _ _ _).trans ?_ | refine (at_new_ne (by (first | assumption | ((try simp only [NX]); omega)))).trans ?_ | refine (at_put_ne (by (first | assumption | ((try simp only [NX]); omega)))).trans ?_ | refine (Ext.at (by assumption) (by (first | assumption | ((try simp only [NX]); omega)))).trans ?_)); exact Nat.le_of_ble_eq_true rfl; ((try simp only [LL]); exact rfl))
    | ((with_reducible apply ev_store); exact rfl; (repeat (first | exact at_put_same _ _ _ | exact at_new_same _ _ | assumption | refine (at_gap _ _ _).trans ?_ | refine (at_new_ne (by (first | assumption | ((try simp only [NX]); omega)))).trans ?_ | refine (at_put_ne (by (first | assumption | ((try simp only [NX]); omega)))).trans ?_ | refine (Ext.at (by assumption) (by (first | assumption | ((try simp only [NX]); omega)))).trans ?_)); ((try simp only [LL]); exact rfl); exact rfl; exact Nat.le_of_ble_eq_true rfl; exact rfl; ((try simp only [LL]); exact rfl))
    | ((with_reducible apply ev_build); exact rfl; exact rfl; exact rfl; ((simp only [ZCS]); exact rfl); ((try simp only [LL]); exact rfl))
    | ((with_reducible apply ev_fieldAddr); exact rfl; exact rfl; exact rfl; exact rfl; ((try simp only [NG]); exact rfl))
    | ((with_reducible apply ev_buildSlice); exact rfl; exact rfl; ((simp only [ZCS]); exact rfl); exact rfl; ((try simp only [LL]); exact rfl))
    | ((with_reducible apply ev_indexAddr); exact rfl; exact rfl; exact rfl; (first | exact Nat.le_of_ble_eq_true rfl | assumption | omega); ((try simp only [LL]); exact rfl))
    | ((with_reducible apply ev_extract); exact rfl)
    | ((with_reducible apply ev_field); exact rfl; exact rfl; exact rfl; exact rfl; exact rfl)
    | ((with_reducible apply ev_condT); exact rfl)
    | ((with_reducible apply ev_condF); exact rfl)
    | ((with_reducible apply ev_test); exact veq_refl _ _ rfl)
    | ((with_reducible apply ev_ko); exact rfl)); try simp only [NB]))
  exact ev_ret ⟨rfl, by (repeat (first | exact Ext.refl _ | assumption | refine Upd.put ?_ _ (.inr (by first | exact Nat.le_refl _ | ((try simp only [NX]); omega))) | refine Upd.new ?_ _ | refine Upd.gap ?_ _ | refine Upd.trans ?_ (by assumption)))⟩
theorem close_no {n : Nat} {H : LH} {lv : Value} (h : NoLog H lv) : Ev (lcall CT (n + 3) 28 [lv] H) fun v H' => v = .int .i64 41 ∧ Ext H H' := by
  refine ev_l (fun _ => L28) ?_
  unfold R28
  (repeat ((first
    | ((with_reducible apply ev_new); ((try simp only [LL]); exact rfl))
    | ((with_reducible apply ev_alloc); exact rfl; ((simp only [ZCS]); exact rfl))
    | ((with_reducible apply ev_load); exact rfl; exact rfl; (repeat (first | exact at_put_same _ _ _ | exact at_new_same _ _ | assumption | refine (at_gap _ _ _).trans ?_ | refine (at_new_ne (by (first | assumption | ((try simp only [NX]); omega)))).trans ?_ | refine (at_put_ne (by (first | assumption | ((try simp only [NX]); omega)))).trans ?_ | refine (Ext.at (by assumption) (by (first | assumption | ((try simp only [NX]); omega)))).trans ?_)); exact rfl)
    | ((with_reducible apply ev_loads); exact rfl; exact rfl; exact rfl; (repeat (first | exact at_put_same _ _ _ | exact at_new_same _ _ | assumption | refine (at_gap _ _ _).trans ?_ | refine (at_new_ne (by (first | assumption | ((try simp only [NX]); omega)))).trans ?_ | refine (at_put_ne (by (first | assumption | ((try simp only [NX]); omega)))).trans ?_ | refine (Ext.at (by assumption) (by (first | assumption | ((try simp only [NX]); omega)))).trans ?_)); exact Nat.le_of_ble_eq_true rfl; ((try simp only [LL]); exact rfl))
    | ((with_reducible apply ev_store); exact rfl; (repeat (first | exact at_put_same _ _ _ | exact at_new_same _ _ | assumption | refine (at_gap _ _ _).trans ?_ | refine (at_new_ne (by (first | assumption | ((try simp only [NX]); omega)))).trans ?_ | refine (at_put_ne (by (first | assumption | ((try simp only [NX]); omega)))).trans ?_ | refine (Ext.at (by assumption) (by (first | assumption | ((try simp only [NX]); omega)))).trans ?_)); ((try simp only [LL]); exact rfl); exact rfl; exact Nat.le_of_ble_eq_true rfl; exact rfl; ((try simp only [LL]); exact rfl))
    | ((with_reducible apply ev_build); exact rfl; exact rfl; exact rfl; ((simp only [ZCS]); exact rfl); ((try simp only [LL]); exact rfl))
    | ((with_reducible apply ev_fieldAddr); exact rfl; exact rfl; exact rfl; exact rfl; ((try simp only [NG]); exact rfl))
    | ((with_reducible apply ev_buildSlice); exact rfl; exact rfl; ((simp only [ZCS]); exact rfl); exact rfl; ((try simp only [LL]); exact rfl))
    | ((with_reducible apply ev_indexAddr); exact rfl; exact rfl; exact rfl; (first | exact Nat.le_of_ble_eq_true rfl | assumption | omega); ((try simp only [LL]); exact rfl))
    | ((with_reducible apply ev_extract); exact rfl)
    | ((with_reducible apply ev_field); exact rfl; exact rfl; exact rfl; exact rfl; exact rfl)
    | ((with_reducible apply ev_condT); exact rfl)
    | ((with_reducible apply ev_condF); exact rfl)
    | ((with_reducible apply ev_test); exact veq_refl _ _ rfl)
    | ((with_reducible apply ev_ko); exact rfl)); try simp only [NB]))
  refine ev_ko2 (call_no h _ _ _) ?_
  rintro v H' ⟨rfl, h1⟩
  (repeat ((first
    | ((with_reducible apply ev_new); ((try simp only [LL]); exact rfl))
    | ((with_reducible apply ev_alloc); exact rfl; ((simp only [ZCS]); exact rfl))
    | ((with_reducible apply ev_load); exact rfl; exact rfl; (repeat (first | exact at_put_same _ _ _ | exact at_new_same _ _ | assumption | refine (at_gap _ _ _).trans ?_ | refine (at_new_ne (by (first | assumption | ((try simp only [NX]); omega)))).trans ?_ | refine (at_put_ne (by (first | assumption | ((try simp only [NX]); omega)))).trans ?_ | refine (Ext.at (by assumption) (by (first | assumption | ((try simp only [NX]); omega)))).trans ?_)); exact rfl)
    | ((with_reducible apply ev_loads); exact rfl; exact rfl; exact rfl; (repeat (first | exact at_put_same _ _ _ | exact at_new_same _ _ | assumption | refine (at_gap _ _ _).trans ?_ | refine (at_new_ne (by (first | assumption | ((try simp only [NX]); omega)))).trans ?_ | refine (at_put_ne (by (first | assumption | ((try simp only [NX]); omega)))).trans ?_ | refine (Ext.at (by assumption) (by (first | assumption | ((try simp only [NX]); omega)))).trans ?_)); exact Nat.le_of_ble_eq_true rfl; ((try simp only [LL]); exact rfl))
    | ((with_reducible apply ev_store); exact rfl; (repeat (first | exact at_put_same _ _ _ | exact at_new_same _ _ | assumption | refine (at_gap _ _ _).trans ?_ | refine (at_new_ne (by (first | assumption | ((try simp only [NX]); omega)))).trans ?_ | refine (at_put_ne (by (first | assumption | ((try simp only [NX]); omega)))).trans ?_ | refine (Ext.at (by assumption) (by (first | assumption | ((try simp only [NX]); omega)))).trans ?_)); ((try simp only [LL]); exact rfl); exact rfl; exact Nat.le_of_ble_eq_true rfl; exact rfl; ((try simp only [LL]); exact rfl))
    | ((with_reducible apply ev_build); exact rfl; exact rfl; exact rfl; ((simp only [ZCS]); exact rfl); ((try simp only [LL]); exact rfl))
    | ((with_reducible apply ev_fieldAddr); exact rfl; exact rfl; exact rfl; exact rfl; ((try simp only [NG]); exact rfl))
    | ((with_reducible apply ev_buildSlice); exact rfl; exact rfl; ((simp only [ZCS]); exact rfl); exact rfl; ((try simp only [LL]); exact rfl))
    | ((with_reducible apply ev_indexAddr); exact rfl; exact rfl; exact rfl; (first | exact Nat.le_of_ble_eq_true rfl | assumption | omega); ((try simp only [LL]); exact rfl))
    | ((with_reducible apply ev_extract); exact rfl)
    | ((with_reducible apply ev_field); exact rfl; exact rfl; exact rfl; exact rfl; exact rfl)
    | ((with_reducible apply ev_condT); exact rfl)
    | ((with_reducible apply ev_condF); exact rfl)
    | ((with_reducible apply ev_test); exact veq_refl _ _ rfl)
    | ((with_reducible apply ev_ko); exact rfl)); try simp only [NB]))
  exact ev_ret ⟨rfl, by (repeat (first | exact Ext.refl _ | assumption | refine Upd.put ?_ _ (.inr (by first | exact Nat.le_refl _ | ((try simp only [NX]); omega))) | refine Upd.new ?_ _ | refine Upd.gap ?_ _ | refine Upd.trans ?_ (by assumption)))⟩
theorem trunc_no {n : Nat} {H : LH} {lv : Value} (h : NoLog H lv) (l : Int) : Ev (lcall CT (n + 3) 18 [lv, .int .i64 l] H) fun v H' => v = .int .i64 41 ∧ Ext H H' := by
  refine ev_l (fun _ => L18) ?_
  unfold R18
  (repeat ((first
    | ((with_reducible apply ev_new); ((try simp only [LL]); exact rfl))
    | ((with_reducible apply ev_alloc); exact rfl; ((simp only [ZCS]); exact rfl))
    | ((with_reducible apply ev_load); exact rfl; exact rfl; (repeat (first | exact at_put_same _ _ _ | exact at_new_same _ _ | assumption | refine (at_gap _ _ _).trans ?_ | refine (at_new_ne (by (first | assumption | ((try simp only [NX]); omega)))).trans ?_ | refine (at_put_ne (by (first | assumption | ((try simp only [NX]); omega)))).trans ?_ | refine (Ext.at (by assumption) (by (first | assumption | ((try simp only [NX]); omega)))).trans ?_)); exact rfl)
    | ((with_reducible apply ev_loads); exact rfl; exact rfl; exact rfl; (repeat (first | exact at_put_same _ _ _ | exact at_new_same _ _ | assumption | refine (at_gap _ _ _).trans ?_ | refine (at_new_ne (by (first | assumption | ((try simp only [NX]); omega)))).trans ?_ | refine (at_put_ne (by (first | assumption | ((try simp only [NX]); omega)))).trans ?_ | refine (Ext.at (by assumption) (by (first | assumption | ((try simp only [NX]); omega)))).trans ?_)); exact Nat.le_of_ble_eq_true rfl; ((try simp only [LL]); exact rfl))
    | ((with_reducible apply ev_store); exact rfl; (repeat (first | exact at_put_same _ _ _ | exact at_new_same _ _ | assumption | refine (at_gap _ _ _).trans ?_ | refine (at_new_ne (by (first | assumption | ((try simp only [NX]); omega)))).trans ?_ | refine (at_put_ne (by (first | assumption | ((try simp only [NX]); omega)))).trans ?_ | refine (Ext.at (by assumption) (by (first | assumption | ((try simp only [NX]); omega)))).trans ?_)); ((try simp only [LL]); exact rfl); exact rfl; exact Nat.le_of_ble_eq_true rfl; exact rfl; ((try simp only [LL]); exact rfl))
    | ((with_reducible apply ev_build); exact rfl; exact rfl; exact rfl; ((simp only [ZCS]); exact rfl); ((try simp only [LL]); exact rfl))
    | ((with_reducible apply ev_fieldAddr); exact rfl; exact rfl; exact rfl; exact rfl; ((try simp only [NG]); exact rfl))
    | ((with_reducible apply ev_buildSlice); exact rfl; exact rfl; ((simp only [ZCS]); exact rfl); exact rfl; ((try simp only [LL]); exact rfl))
    | ((with_reducible apply ev_indexAddr); exact rfl; exact rfl; exact rfl; (first | exact Nat.le_of_ble_eq_true rfl | assumption | omega); ((try simp only [LL]); exact rfl))
    | ((with_reducible apply ev_extract); exact rfl)
    | ((with_reducible apply ev_field); exact rfl; exact rfl; exact rfl; exact rfl; exact rfl)
    | ((with_reducible apply ev_condT); exact rfl)
    | ((with_reducible apply ev_condF); exact rfl)
    | ((with_reducible apply ev_test); exact veq_refl _ _ rfl)
    | ((with_reducible apply ev_ko); exact rfl)); try simp only [NB]))
  refine ev_ko2 (call_no h _ _ _) ?_
  rintro v H' ⟨rfl, h1⟩
  (repeat ((first
    | ((with_reducible apply ev_new); ((try simp only [LL]); exact rfl))
    | ((with_reducible apply ev_alloc); exact rfl; ((simp only [ZCS]); exact rfl))
    | ((with_reducible apply ev_load); exact rfl; exact rfl; (repeat (first | exact at_put_same _ _ _ | exact at_new_same _ _ | assumption | refine (at_gap _ _ _).trans ?_ | refine (at_new_ne (by (first | assumption | ((try simp only [NX]); omega)))).trans ?_ | refine (at_put_ne (by (first | assumption | ((try simp only [NX]); omega)))).trans ?_ | refine (Ext.at (by assumption) (by (first | assumption | ((try simp only [NX]); omega)))).trans ?_)); exact rfl)
    | ((with_reducible apply ev_loads); exact rfl; exact rfl; exact rfl; (repeat (first | exact at_put_same _ _ _ | exact at_new_same _ _ | assumption | refine (at_gap _ _ _).trans ?_ | refine (at_new_ne (by (first | assumption | ((try simp only [NX]); omega)))).trans ?_ | refine (at_put_ne (by (first | assumption | ((try simp only [NX]); omega)))).trans ?_ | refine (Ext.at (by assumption) (by (first | assumption | ((try simp only [NX]); omega)))).trans ?_)); exact Nat.le_of_ble_eq_true rfl; ((try simp only [LL]); exact rfl))
    | ((with_reducible apply ev_store); exact rfl; (repeat (first | exact at_put_same _ _ _ | exact at_new_same _ _ | assumption | refine (at_gap _ _ _).trans ?_ | refine (at_new_ne (by (first | assumption | ((try simp only [NX]); omega)))).trans ?_ | refine (at_put_ne (by (first | assumption | ((try simp only [NX]); omega)))).trans ?_ | refine (Ext.at (by assumption) (by (first | assumption | ((try simp only [NX]); omega)))).trans ?_)); ((try simp only [LL]); exact rfl); exact rfl; exact Nat.le_of_ble_eq_true rfl; exact rfl; ((try simp only [LL]); exact rfl))
    | ((with_reducible apply ev_build); exact rfl; exact rfl; exact rfl; ((simp only [ZCS]); exact rfl); ((try simp only [LL]); exact rfl))
    | ((with_reducible apply ev_fieldAddr); exact rfl; exact rfl; exact rfl; exact rfl; ((try simp only [NG]); exact rfl))
    | ((with_reducible apply ev_buildSlice); exact rfl; exact rfl; ((simp only [ZCS]); exact rfl); exact rfl; ((try simp only [LL]); exact rfl))
    | ((with_reducible apply ev_indexAddr); exact rfl; exact rfl; exact rfl; (first | exact Nat.le_of_ble_eq_true rfl | assumption | omega); ((try simp only [LL]); exact rfl))
    | ((with_reducible apply ev_extract); exact rfl)
    | ((with_reducible apply ev_field); exact rfl; exact rfl; exact rfl; exact rfl; exact rfl)
    | ((with_reducible apply ev_condT); exact rfl)
    | ((with_reducible apply ev_condF); exact rfl)
    | ((with_reducible apply ev_test); exact veq_refl _ _ rfl)
    | ((with_reducible apply ev_ko); exact rfl)); try simp only [NB]))
  exact ev_ret ⟨rfl, by (repeat (first | exact Ext.refl _ | assumption | refine Upd.put ?_ _ (.inr (by first | exact Nat.le_refl _ | ((try simp only [NX]); omega))) | refine Upd.new ?_ _ | refine Upd.gap ?_ _ | refine Upd.trans ?_ (by assumption)))⟩
theorem read_no {n : Nat} {H : LH} {lv : Value} (h : NoLog H lv) (l : Int) : Ev (lcall CT (n + 3) 41 [lv, .int .i64 l] H) fun v H' => v = .tuple #[.agg #[.int .i64 0, .slice none 0 0], .int .i64 41] ∧ Ext H H' := by
  refine ev_l (fun _ => L41) ?_
  unfold R41
  (repeat ((first
    | ((with_reducible apply ev_new); ((try simp only [LL]); exact rfl))
    | ((with_reducible apply ev_alloc); exact rfl; ((simp only [ZCS]); exact rfl))
    | ((with_reducible apply ev_load); exact rfl; exact rfl; (repeat (first | exact at_put_same _ _ _ | exact at_new_same _ _ | assumption | refine (at_gap _ _ _).trans ?_ | refine (at_new_ne (by (first | assumption | ((try simp only [NX]); omega)))).trans ?_ | refine (at_put_ne (by (first | assumption | ((try simp only [NX]); omega)))).trans ?_ | refine (Ext.at (by assumption) (by (first | assumption | ((try simp only [NX]); omega)))).trans ?_)); exact rfl)
    | ((with_reducible apply ev_loads); exact rfl; exact rfl; exact rfl; (repeat (first | exact at_put_same _ _ _ | exact at_new_same _ _ | assumption | refine (at_gap _ _ _).trans ?_ | refine (at_new_ne (by (first | assumption | ((try simp only [NX]); omega)))).trans ?_ | refine (at_put_ne (by (first | assumption | ((try simp only [NX]); omega)))).trans ?_ | refine (Ext.at (by assumption) (by (first | assumption | ((try simp only [NX]); omega)))).trans ?_)); exact Nat.le_of_ble_eq_true rfl; ((try simp only [LL]); exact rfl))
    | ((with_reducible apply ev_store); exact rfl; (repeat (first | exact at_put_same _ _ _ | exact at_new_same _ _ | assumption | refine (at_gap _ _ _).trans ?_ | refine (at_new_ne (by (first | assumption | ((try simp only [NX]); omega)))).trans ?_ | refine (at_put_ne (by (first | assumption | ((try simp only [NX]); omega)))).trans ?_ | refine (Ext.at (by assumption) (by (first | assumption | ((try simp only [NX]); omega)))).trans ?_)); ((try simp only [LL]); exact rfl); exact rfl; exact Nat.le_of_ble_eq_true rfl; exact rfl; ((try simp only [LL]); exact rfl))
    | ((with_reducible apply ev_build); exact rfl; exact rfl; exact rfl; ((simp only [ZCS]); exact rfl); ((try simp only [LL]); exact rfl))
    | ((with_reducible apply ev_fieldAddr); exact rfl; exact rfl; exact rfl; exact rfl; ((try simp only [NG]); exact rfl))
    | ((with_reducible apply ev_buildSlice); exact rfl; exact rfl; ((simp only [ZCS]); exact rfl); exact rfl; ((try simp only [LL]); exact rfl))
    | ((with_reducible apply ev_indexAddr); exact rfl; exact rfl; exact rfl; (first | exact Nat.le_of_ble_eq_true rfl | assumption | omega); ((try simp only [LL]); exact rfl))
    | ((with_reducible apply ev_extract); exact rfl)
    | ((with_reducible apply ev_field); exact rfl; exact rfl; exact rfl; exact rfl; exact rfl)
    | ((with_reducible apply ev_condT); exact rfl)
    | ((with_reducible apply ev_condF); exact rfl)
    | ((with_reducible apply ev_test); exact veq_refl _ _ rfl)
    | ((with_reducible apply ev_ko); exact rfl)); try simp only [NB]))
  refine ev_ko2 (call_no (h.ext (by (repeat (first | exact Ext.refl _ | assumption | refine Upd.put ?_ _ (.inr (by first | exact Nat.le_refl _ | ((try simp only [NX]); omega))) | refine Upd.new ?_ _ | refine Upd.gap ?_ _ | refine Upd.trans ?_ (by assumption))))) _ _ _) ?_
  rintro v H' ⟨rfl, h1⟩
  have h1n := Upd.next h1; (try simp only [NX] at h1n)
  refine ev_ko2 (record_err _ _) ?_
  rintro v H2 ⟨rfl, h2⟩
  have h2n := Upd.next h2; (try simp only [NX] at h2n)
  (repeat ((first
    | ((with_reducible apply ev_new); ((try simp only [LL]); exact rfl))
    | ((with_reducible apply ev_alloc); exact rfl; ((simp only [ZCS]); exact rfl))
    | ((with_reducible apply ev_load); exact rfl; exact rfl; (repeat (first | exact at_put_same _ _ _ | exact at_new_same _ _ | assumption | refine (at_gap _ _ _).trans ?_ | refine (at_new_ne (by (first | assumption | ((try simp only [NX]); omega)))).trans ?_ | refine (at_put_ne (by (first | assumption | ((try simp only [NX]); omega)))).trans ?_ | refine (Ext.at (by assumption) (by (first | assumption | ((try simp only [NX]); omega)))).trans ?_)); exact rfl)
    | ((with_reducible apply ev_loads); exact rfl; exact rfl; exact rfl; (repeat (first | exact at_put_same _ _ _ | exact at_new_same _ _ | assumption | refine (at_gap _ _ _).trans ?_ | refine (at_new_ne (by (first | assumption | ((try simp only [NX]); omega)))).trans ?_ | refine (at_put_ne (by (first | assumption | ((try simp only [NX]); omega)))).trans ?_ | refine (Ext.at (by assumption) (by (first | assumption | ((try simp only [NX]); omega)))).trans ?_)); exact Nat.le_of_ble_eq_true rfl; ((try simp only [LL]); exact rfl))
    | ((with_reducible apply ev_store); exact rfl; (repeat (first | exact at_put_same _ _ _ | exact at_new_same _ _ | assumption | refine (at_gap _ _ _).trans ?_ | refine (at_new_ne (by (first | assumption | ((try simp only [NX]); omega)))).trans ?_ | refine (at_put_ne (by (first | assumption | ((try simp only [NX]); omega)))).trans ?_ | refine (Ext.at (by assumption) (by (first | assumption | ((try simp only [NX]); omega)))).trans ?_)); ((try simp only [LL]); exact rfl); exact rfl; exact Nat.le_of_ble_eq_true rfl; exact rfl; ((try simp only [LL]); exact rfl))
    | ((with_reducible apply ev_build); exact rfl; exact rfl; exact rfl; ((simp only [ZCS]); exact rfl); ((try simp only [LL]); exact rfl))
    | ((with_reducible apply ev_fieldAddr); exact rfl; exact rfl; exact rfl; exact rfl; ((try simp only [NG]); exact rfl))
    | ((with_reducible apply ev_buildSlice); exact rfl; exact rfl; ((simp only [ZCS]); exact rfl); exact rfl; ((try simp only [LL]); exact rfl))
    | ((with_reducible apply ev_indexAddr); exact rfl; exact rfl; exact rfl; (first | exact Nat.le_of_ble_eq_true rfl | assumption | omega); ((try simp only [LL]); exact rfl))
    | ((with_reducible apply ev_extract); exact rfl)
    | ((with_reducible apply ev_field); exact rfl; exact rfl; exact rfl; exact rfl; exact rfl)
    | ((with_reducible apply ev_condT); exact rfl)
    | ((with_reducible apply ev_condF); exact rfl)
    | ((with_reducible apply ev_test); exact veq_refl _ _ rfl)
    | ((with_reducible apply ev_ko); exact rfl)); try simp only [NB]))
  exact ev_ret ⟨rfl, by (repeat (first | exact Ext.refl _ | assumption | refine Upd.put ?_ _ (.inr (by first | exact Nat.le_refl _ | ((try simp only [NX]); omega))) | refine Upd.new ?_ _ | refine Upd.gap ?_ _ | refine Upd.trans ?_ (by assumption)))⟩
theorem look_no {n : Nat} {H : LH} {lv : Value} (h : NoLog H lv) : Ev (lcall CT (n + 2) 22 [lv] H) fun v H' => v = zv77 ∧ Ext H H' := by
  refine ev_l (fun _ => L22) ?_
  unfold R22
  (repeat ((first
    | ((with_reducible apply ev_new); ((try simp only [LL]); exact rfl))
    | ((with_reducible apply ev_alloc); exact rfl; ((simp only [ZCS]); exact rfl))
    | ((with_reducible apply ev_load); exact rfl; exact rfl; (repeat (first | exact at_put_same _ _ _ | exact at_new_same _ _ | assumption | refine (at_gap _ _ _).trans ?_ | refine (at_new_ne (by (first | assumption | ((try simp only [NX]); omega)))).trans ?_ | refine (at_put_ne (by (first | assumption | ((try simp only [NX]); omega)))).trans ?_ | refine (Ext.at (by assumption) (by (first | assumption | ((try simp only [NX]); omega)))).trans ?_)); exact rfl)
    | ((with_reducible apply ev_loads); exact rfl; exact rfl; exact rfl; (repeat (first | exact at_put_same _ _ _ | exact at_new_same _ _ | assumption | refine (at_gap _ _ _).trans ?_ | refine (at_new_ne (by (first | assumption | ((try simp only [NX]); omega)))).trans ?_ | refine (at_put_ne (by (first | assumption | ((try simp only [NX]); omega)))).trans ?_ | refine (Ext.at (by assumption) (by (first | assumption | ((try simp only [NX]); omega)))).trans ?_)); exact Nat.le_of_ble_eq_true rfl; ((try simp only [LL]); exact rfl))
    | ((with_reducible apply ev_store); exact rfl; (repeat (first | exact at_put_same _ _ _ | exact at_new_same _ _ | assumption | refine (at_gap _ _ _).trans ?_ | refine (at_new_ne (by (first | assumption | ((try simp only [NX]); omega)))).trans ?_ | refine (at_put_ne (by (first | assumption | ((try simp only [NX]); omega)))).trans ?_ | refine (Ext.at (by assumption) (by (first | assumption | ((try simp only [NX]); omega)))).trans ?_)); ((try simp only [LL]); exact rfl); exact rfl; exact Nat.le_of_ble_eq_true rfl; exact rfl; ((try simp only [LL]); exact rfl))
    | ((with_reducible apply ev_build); exact rfl; exact rfl; exact rfl; ((simp only [ZCS]); exact rfl); ((try simp only [LL]); exact rfl))
    | ((with_reducible apply ev_fieldAddr); exact rfl; exact rfl; exact rfl; exact rfl; ((try simp only [NG]); exact rfl))
    | ((with_reducible apply ev_buildSlice); exact rfl; exact rfl; ((simp only [ZCS]); exact rfl); exact rfl; ((try simp only [LL]); exact rfl))
    | ((with_reducible apply ev_indexAddr); exact rfl; exact rfl; exact rfl; (first | exact Nat.le_of_ble_eq_true rfl | assumption | omega); ((try simp only [LL]); exact rfl))
    | ((with_reducible apply ev_extract); exact rfl)
    | ((with_reducible apply ev_field); exact rfl; exact rfl; exact rfl; exact rfl; exact rfl)
    | ((with_reducible apply ev_condT); exact rfl)
    | ((with_reducible apply ev_condF); exact rfl)
    | ((with_reducible apply ev_test); exact veq_refl _ _ rfl)
    | ((with_reducible apply ev_ko); exact rfl)); try simp only [NB]))
  refine ev_ko2 (there_no (h.ext (by (repeat (first | exact Ext.refl _ | assumption | refine Upd.put ?_ _ (.inr (by first | exact Nat.le_refl _ | ((try simp only [NX]); omega))) | refine Upd.new ?_ _ | refine Upd.gap ?_ _ | refine Upd.trans ?_ (by assumption)))))) ?_
  rintro v H' ⟨rfl, rfl⟩
  (repeat ((first
    | ((with_reducible apply ev_new); ((try simp only [LL]); exact rfl))
    | ((with_reducible apply ev_alloc); exact rfl; ((simp only [ZCS]); exact rfl))
    | ((with_reducible apply ev_load); exact rfl; exact rfl; (repeat (first | exact at_put_same _ _ _ | exact at_new_same _ _ | assumption | refine (at_gap _ _ _).trans ?_ | refine (at_new_ne (by (first | assumption | ((try simp only [NX]); omega)))).trans ?_ | refine (at_put_ne (by (first | assumption | ((try simp only [NX]); omega)))).trans ?_ | refine (Ext.at (by assumption) (by (first | assumption | ((try simp only [NX]); omega)))).trans ?_)); exact rfl)
    | ((with_reducible apply ev_loads); exact rfl; exact rfl; exact rfl; (repeat (first | exact at_put_same _ _ _ | exact at_new_same _ _ | assumption | refine (at_gap _ _ _).trans ?_ | refine (at_new_ne (by (first | assumption | ((try simp only [NX]); omega)))).trans ?_ | refine (at_put_ne (by (first | assumption | ((try simp only [NX]); omega)))).trans ?_ | refine (Ext.at (by assumption) (by (first | assumption | ((try simp only [NX]); omega)))).trans ?_)); exact Nat.le_of_ble_eq_true rfl; ((try simp only [LL]); exact rfl))
    | ((with_reducible apply ev_store); exact rfl; (repeat (first | exact at_put_same _ _ _ | exact at_new_same _ _ | assumption | refine (at_gap _ _ _).trans ?_ | refine (at_new_ne (by (first | assumption | ((try simp only [NX]); omega)))).trans ?_ | refine (at_put_ne (by (first | assumption | ((try simp only [NX]); omega)))).trans ?_ | refine (Ext.at (by assumption) (by (first | assumption | ((try simp only [NX]); omega)))).trans ?_)); ((try simp only [LL]); exact rfl); exact rfl; exact Nat.le_of_ble_eq_true rfl; exact rfl; ((try simp only [LL]); exact rfl))
    | ((with_reducible apply ev_build); exact rfl; exact rfl; exact rfl; ((simp only [ZCS]); exact rfl); ((try simp only [LL]); exact rfl))
    | ((with_reducible apply ev_fieldAddr); exact rfl; exact rfl; exact rfl; exact rfl; ((try simp only [NG]); exact rfl))
    | ((with_reducible apply ev_buildSlice); exact rfl; exact rfl; ((simp only [ZCS]); exact rfl); exact rfl; ((try simp only [LL]); exact rfl))
    | ((with_reducible apply ev_indexAddr); exact rfl; exact rfl; exact rfl; (first | exact Nat.le_of_ble_eq_true rfl | assumption | omega); ((try simp only [LL]); exact rfl))
    | ((with_reducible apply ev_extract); exact rfl)
    | ((with_reducible apply ev_field); exact rfl; exact rfl; exact rfl; exact rfl; exact rfl)
    | ((with_reducible apply ev_condT); exact rfl)
    | ((with_reducible apply ev_condF); exact rfl)
    | ((with_reducible apply ev_test); exact veq_refl _ _ rfl)
    | ((with_reducible apply ev_ko); exact rfl)); try simp only [NB]))
  exact ev_ret ⟨rfl, by (repeat (first | exact Ext.refl _ | assumption | refine Upd.put ?_ _ (.inr (by first | exact Nat.le_refl _ | ((try simp only [NX]); omega))) | refine Upd.new ?_ _ | refine Upd.gap ?_ _ | refine Upd.trans ?_ (by assumption)))⟩
theorem tell_no {n : Nat} {H : LH} {lv : Value} (h : NoLog H lv) (l : Int) : Ev (lcall CT (n + 2) 39 [lv, .int .i64 l] H) fun v H' => v = .tuple #[.agg #[.int .i64 0, .slice none 0 0], .int .i64 41] ∧ Ext H H' := by
  refine ev_l (fun _ => L39) ?_
  unfold R39
  (repeat ((first
    | ((with_reducible apply ev_new); ((try simp only [LL]); exact rfl))
    | ((with_reducible apply ev_alloc); exact rfl; ((simp only [ZCS]); exact rfl))
    | ((with_reducible apply ev_load); exact rfl; exact rfl; (repeat (first | exact at_put_same _ _ _ | exact at_new_same _ _ | assumption | refine (at_gap _ _ _).trans ?_ | refine (at_new_ne (by (first | assumption | ((try simp only [NX]); omega)))).trans ?_ | refine (at_put_ne (by (first | assumption | ((try simp only [NX]); omega)))).trans ?_ | refine (Ext.at (by assumption) (by (first | assumption | ((try simp only [NX]); omega)))).trans ?_)); exact rfl)
    | ((with_reducible apply ev_loads); exact rfl; exact rfl; exact rfl; (repeat (first | exact at_put_same _ _ _ | exact at_new_same _ _ | assumption | refine (at_gap _ _ _).trans ?_ | refine (at_new_ne (by (first | assumption | ((try simp only [NX]); omega)))).trans ?_ | refine (at_put_ne (by (first | assumption | ((try simp only [NX]); omega)))).trans ?_ | refine (Ext.at (by assumption) (by (first | assumption | ((try simp only [NX]); omega)))).trans ?_)); exact Nat.le_of_ble_eq_true rfl; ((try simp only [LL]); exact rfl))
    | ((with_reducible apply ev_store); exact rfl; (repeat (first | exact at_put_same _ _ _ | exact at_new_same _ _ | assumption | refine (at_gap _ _ _).trans ?_ | refine (at_new_ne (by (first | assumption | ((try simp only [NX]); omega)))).trans ?_ | refine (at_put_ne (by (first | assumption | ((try simp only [NX]); omega)))).trans ?_ | refine (Ext.at (by assumption) (by (first | assumption | ((try simp only [NX]); omega)))).trans ?_)); ((try simp only [LL]); exact rfl); exact rfl; exact Nat.le_of_ble_eq_true rfl; exact rfl; ((try simp only [LL]); exact rfl))
    | ((with_reducible apply ev_build); exact rfl; exact rfl; exact rfl; ((simp only [ZCS]); exact rfl); ((try simp only [LL]); exact rfl))
    | ((with_reducible apply ev_fieldAddr); exact rfl; exact rfl; exact rfl; exact rfl; ((try simp only [NG]); exact rfl))
    | ((with_reducible apply ev_buildSlice); exact rfl; exact rfl; ((simp only [ZCS]); exact rfl); exact rfl; ((try simp only [LL]); exact rfl))
    | ((with_reducible apply ev_indexAddr); exact rfl; exact rfl; exact rfl; (first | exact Nat.le_of_ble_eq_true rfl | assumption | omega); ((try simp only [LL]); exact rfl))
    | ((with_reducible apply ev_extract); exact rfl)
    | ((with_reducible apply ev_field); exact rfl; exact rfl; exact rfl; exact rfl; exact rfl)
    | ((with_reducible apply ev_condT); exact rfl)
    | ((with_reducible apply ev_condF); exact rfl)
    | ((with_reducible apply ev_test); exact veq_refl _ _ rfl)
    | ((with_reducible apply ev_ko); exact rfl)); try simp only [NB]))
  refine ev_ko2 (there_no (h.ext (by (repeat (first | exact Ext.refl _ | assumption | refine Upd.put ?_ _ (.inr (by first | exact Nat.le_refl _ | ((try simp only [NX]); omega))) | refine Upd.new ?_ _ | refine Upd.gap ?_ _ | refine Upd.trans ?_ (by assumption)))))) ?_
  rintro v H' ⟨rfl, rfl⟩
  (repeat ((first
    | ((with_reducible apply ev_new); ((try simp only [LL]); exact rfl))
    | ((with_reducible apply ev_alloc); exact rfl; ((simp only [ZCS]); exact rfl))
    | ((with_reducible apply ev_load); exact rfl; exact rfl; (repeat (first | exact at_put_same _ _ _ | exact at_new_same _ _ | assumption | refine (at_gap _ _ _).trans ?_ | refine (at_new_ne (by (first | assumption | ((try simp only [NX]); omega)))).trans ?_ | refine (at_put_ne (by (first | assumption | ((try simp only [NX]); omega)))).trans ?_ | refine (Ext.at (by assumption) (by (first | assumption | ((try simp only [NX]); omega)))).trans ?_)); exact rfl)
    | ((with_reducible apply ev_loads); exact rfl; exact rfl; exact rfl; (repeat (first | exact at_put_same _ _ _ | exact at_new_same _ _ | assumption | refine (at_gap _ _ _).trans ?_ | refine (at_new_ne (by (first | assumption | ((try simp only [NX]); omega)))).trans ?_ | refine (at_put_ne (by (first | assumption | ((try simp only [NX]); omega)))).trans ?_ | refine (Ext.at (by assumption) (by (first | assumption | ((try simp only [NX]); omega)))).trans ?_)); exact Nat.le_of_ble_eq_true rfl; ((try simp only [LL]); exact rfl))
    | ((with_reducible apply ev_store); exact rfl; (repeat (first | exact at_put_same _ _ _ | exact at_new_same _ _ | assumption | refine (at_gap _ _ _).trans ?_ | refine (at_new_ne (by (first | assumption | ((try simp only [NX]); omega)))).trans ?_ | refine (at_put_ne (by (first | assumption | ((try simp only [NX]); omega)))).trans ?_ | refine (Ext.at (by assumption) (by (first | assumption | ((try simp only [NX]); omega)))).trans ?_)); ((try simp only [LL]); exact rfl); exact rfl; exact Nat.le_of_ble_eq_true rfl; exact rfl; ((try simp only [LL]); exact rfl))
    | ((with_reducible apply ev_build); exact rfl; exact rfl; exact rfl; ((simp only [ZCS]); exact rfl); ((try simp only [LL]); exact rfl))
    | ((with_reducible apply ev_fieldAddr); exact rfl; exact rfl; exact rfl; exact rfl; ((try simp only [NG]); exact rfl))
    | ((with_reducible apply ev_buildSlice); exact rfl; exact rfl; ((simp only [ZCS]); exact rfl); exact rfl; ((try simp only [LL]); exact rfl))
    | ((with_reducible apply ev_indexAddr); exact rfl; exact rfl; exact rfl; (first | exact Nat.le_of_ble_eq_true rfl | assumption | omega); ((try simp only [LL]); exact rfl))
    | ((with_reducible apply ev_extract); exact rfl)
    | ((with_reducible apply ev_field); exact rfl; exact rfl; exact rfl; exact rfl; exact rfl)
    | ((with_reducible apply ev_condT); exact rfl)
    | ((with_reducible apply ev_condF); exact rfl)
    | ((with_reducible apply ev_test); exact veq_refl _ _ rfl)
    | ((with_reducible apply ev_ko); exact rfl)); try simp only [NB]))
  exact ev_ret ⟨rfl, by (repeat (first | exact Ext.refl _ | assumption | refine Upd.put ?_ _ (.inr (by first | exact Nat.le_refl _ | ((try simp only [NX]); omega))) | refine Upd.new ?_ _ | refine Upd.gap ?_ _ | refine Upd.trans ?_ (by assumption)))⟩
end Go.Proofs.YtiedaccgagnofaaGreat
