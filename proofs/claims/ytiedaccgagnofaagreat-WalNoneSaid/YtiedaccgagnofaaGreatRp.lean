/- The tables with a stand-in for begun; calls from a memory told in part. -/
import Derived.Test.YtiedaccgagnofaaGreatRo
namespace Go.Proofs.YtiedaccgagnofaaGreat
open Go.RowKit

/-- begun says yes, and leaves what is. -/
noncomputable def begunS (args : List Value) (H : LH) : Option (Value × LH) :=
  match args with
  | [] => some (.bool true, H)
  | _ => none
noncomputable def specB (f : FuncId) : Option (List Value → LH → Option (Value × LH)) :=
  match Nat.beq f 8 with
  | true => some begunS
  | false => specT f
noncomputable def CT : Ctx := Ctx.mk (Tab.mk descP.get infoP.get) Tryz.prog fnP.get methP specB (fun _ => false) extT
theorem CT_tab : CT.toTab.Ok CT.P := CT0_tab
theorem HRel.belowed {R : Ren} {w0 : Fr} {w w' : World} {H : LH} (h : HRel R w0 H w) (hb : Below w.heap.size w w') : HRel R w0 H w' :=
  ⟨fun id o ho => by
    obtain ⟨p, h1, h2, h3⟩ := h.live id o ho
    exact ⟨p, h1, h2, Holds.keep h3 (Ren.le_refl _) (hb.block _ h3.lt)⟩,
   h.one, h.fresh, ⟨hb.os.trans h.below.os, hb.tape.trans h.below.tape, hb.output.trans h.below.output, Nat.le_trans h.below.size hb.size, fun k hk => (hb.block k (Nat.lt_of_lt_of_le (w0.lt k hk) h.below.size)).trans (h.below.block k hk)⟩, h.holes⟩
theorem CT_good : CT.Good := by
  have h0 := CT0_good room_spec
  refine ⟨⟨h0.sound.1, h0.sound.2, h0.sound.3, h0.sound.4⟩, h0.mixed, h0.code, ⟨fun f s h => ?_, fun f s _ h => by cases h⟩⟩
  replace h : specB f = some s := h
  unfold specB at h
  split at h
  · rename_i hf
    have hf := beq_t hf
    subst hf
    injection h with h; subst h
    intro args H v H' hl R w0 w args' hr ha
    unfold begunS at hl
    split at hl
    · injection hl with hl; injection hl with h1 h2; subst h1; subst h2
      have : args' = #[] := Array.toList_inj.1 (List.eq_nil_of_length_eq_zero (by have := ha.1; simpa using this.symm))
      subst this
      refine Calls.mono (begun_ok w) fun e w' he => ?_
      obtain ⟨rfl, hb⟩ := he
      exact ⟨R, Ren.le_refl R, .bool true, hr.belowed hb⟩
    · cases hl
  · exact h0.specs.call f s h
end Go.Proofs.YtiedaccgagnofaaGreat
