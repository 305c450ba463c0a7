/- flumelaw23.ModelLost returns true for every input: once a record is lost with its number, no Append above it is done, no Sync, no Close; none at or above it is read, those below are. No condition: every base, every n, every lost, every data. -/
import Derived.Test.YtemllidcnamlmaaLw
import Derived.Test.YtemllidcnamlmaaWo
import Derived.ChangeOld
namespace Go.Proofs.Ytemllidcnamlmaa
open Go.ChangeShapes Go.WideShapes Go.ChangeAt Go.RowKit

theorem lost_own : ownKnob Try.prog.godebug = none := by kernel_rfl
theorem lost_laidOut : laidOutB Try.prog = true := by kernel_rfl

theorem lost_any (w : World) (base a1 a2 : Int) (A : Option Addr) (dn dc : Nat) (l : List Int) (hB : Byt w w.heap.size A dn dc l) :
    Calls Try.prog 4 #[.int .i64 base, .int .i64 a1, .int .i64 a2, .slice A dn dc] w fun e w' => e = .returned (.bool true) ∧ Below w.heap.size w w' := by
  by_cases c1 : base < 1
  · exact lost_no1 w base a1 a2 A dn dc c1
  by_cases c2 : 1152921504606846976 < base
  · exact lost_no2 w base a1 a2 A dn dc (by omega) c2
  by_cases c3 : a1 < 1
  · exact lost_no3 w base a1 a2 A dn dc (by omega) (by omega) c3
  by_cases c4 : 30 < a1
  · exact lost_no4 w base a1 a2 A dn dc (by omega) (by omega) (by omega) c4
  by_cases c5 : a2 < 0
  · exact lost_no5 w base a1 a2 A dn dc (by omega) (by omega) (by omega) (by omega) c5
  by_cases c6 : a1 ≤ a2
  · exact lost_no6 w base a1 a2 A dn dc (by omega) (by omega) (by omega) (by omega) (by omega) c6
  by_cases c7 : 100 < (dn : Int)
  · exact lost_no7 w base a1 a2 A dn dc (by omega) (by omega) (by omega) (by omega) (by omega) (by omega) c7
  obtain ⟨n, rfl⟩ := Int.eq_ofNat_of_zero_le (show 0 ≤ a1 by omega)
  obtain ⟨k, rfl⟩ := Int.eq_ofNat_of_zero_le (show 0 ≤ a2 by omega)
  exact lost_ok w base n k A dn dc l (by omega) (by omega) (by omega) (by omega) (by omega) (by omega) hB

set_option maxRecDepth 100000 in
theorem lost_lifted (os : Os) (started : os.Started) (H : Type) (enc : TypeId × Value → H) :
    ReturnsInHanded {} Try.checked os 4 .any (Rows.modelLostSpec.pre6 enc Try.prog Try.f4 Rows.modelLostRow.domain false) (Rows.modelLostSpec.post enc Try.prog Try.f4 false true false false) := by
  refine returnsInHanded_of_change (C := Try.checked) lost_own started (by kernel_rfl) Try.func4
    (ChangeSpec.witness6 (enc := enc) (C := Try.checked) false ⟨#[], #[.int .i64 0, .int .i64 0, .int .i64 0, .slice none 0 0], []⟩ 8 (by kernel_rfl) (by kernel_rfl) (by kernel_rfl) (by kernel_rfl)) ?_
  intro W base args ds gs before hval0 hW hcnd _
  have hval : ∀ (j : Nat) t v, Try.f4.params[j]? = some t → args[j]? = some v → Value.okWide Try.prog W .any base t v := hval0
  have hW' := hW
  obtain ⟨p, q, hA0, hV, rfl, hfz, hnd⟩ := hW
  have hA : DataW.TrodAll enc Try.prog W 0 (fun _ => true) true Try.f4.params.toList args.toList ds p := hA0
  rw [Try.params4] at hA hval
  obtain ⟨v0, vs0, d0, ds0, p0, q0, hargs, rfl, rfl, h0, r0⟩ := trodAll_cons hA
  obtain ⟨v1, vs1, d1, ds1, p1, q1, rfl, rfl, rfl, h1, r1⟩ := trodAll_cons r0
  obtain ⟨v2, vs2, d2, ds2, p2, q2, rfl, rfl, rfl, h2, r2⟩ := trodAll_cons r1
  obtain ⟨v3, vs3, d3, ds3, p3, q3, rfl, rfl, rfl, h3, r3⟩ := trodAll_cons r2
  obtain ⟨rfl, rfl, rfl⟩ := trodAll_nil r3
  obtain rfl : args = #[v0, v1, v2, v3] := by cases args; simp_all
  obtain ⟨rfl, rfl⟩ := trodVars_none hV
  obtain ⟨a0, rfl, rfl, rfl, w0⟩ := open_int Try.underlying2 (hval 0 2 v0 rfl rfl) h0
  obtain ⟨a1, rfl, rfl, rfl, w1⟩ := open_int Try.underlying3 (hval 1 3 v1 rfl rfl) h1
  obtain ⟨a2, rfl, rfl, rfl, w2⟩ := open_int Try.underlying3 (hval 2 3 v2 rfl rfl) h2
  obtain ⟨a3, len3, cap3, rfl⟩ := okWide_slice Try.underlying30 (hval 3 30 v3 rfl rfl)
  have k3 := h3
  have lt3 : ∀ x ∈ p3, x.block < W.heap.size := by obtain ⟨m, hm⟩ := k3; exact DataW.trod_lt m _ _ _ hm
  obtain ⟨z3, w3⟩ : ∃ l, Byt W W.heap.size a3 len3 cap3 l := by
    obtain ⟨fuel, hf⟩ := h3
    obtain ⟨A, n, c, l, he, hb⟩ := byt_open (v := .slice a3 len3 cap3) (by simpa [Value.cells] using hf)
    injection he with e1 e2 e3
    subst e1 e2 e3
    exact ⟨l, hb⟩
  clear hA0 hval0
  refine (lost_any W a0 a1 a2 a3 len3 cap3 z3 w3).mono fun e W' ⟨he, bel⟩ => ?_
  subst he
  exact ⟨_, rfl, _, _, _, [], _, [], hW', trodAll_mk1 (shut_bool Try.underlying4 _), (trodAll_cons_mk (shut_int Try.underlying2 w0) (trodAll_cons_mk (shut_int Try.underlying3 w1) (trodAll_cons_mk (shut_int Try.underlying3 w2) (trodAll_cons_mk (Below.trod lost_laidOut (by kernel_rfl) (of_decide_eq_true (by kernel_rfl)) k3 bel lt3) trodAll_mk0)))), rfl, bel.frame _, fun h => by cases h⟩

theorem modelLost_holds : Rows.ModelLostSaid :=
  OpenClaim.holds_of_wide 4 Try.f4 rfl rfl rfl rfl rfl rfl rfl ⟨rfl, rfl, rfl, rfl, rfl⟩ rfl rfl rfl rfl rfl (by kernel_rfl) Try.func4 (by kernel_rfl)
    (of_decide_eq_true (by kernel_rfl)) (by unfold Func.isWrapper; first | (rw [if_pos (by decide +kernel)]; kernel_rfl) | (rw [if_neg (by decide +kernel)]; exact ⟨rfl, rfl⟩))
    (fun os started H enc _ => lost_lifted os started H enc)
#print axioms modelLost_holds
end Go.Proofs.Ytemllidcnamlmaa
