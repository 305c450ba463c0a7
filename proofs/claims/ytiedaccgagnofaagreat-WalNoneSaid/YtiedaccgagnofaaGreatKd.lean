/- The second run, with what follows handed on: code and calls. -/
import Derived.Test.YtiedaccgagnofaaGreatKc
namespace Go.Proofs.YtiedaccgagnofaaGreat
open Go.RowKit

/-! What stands in the printed texts. -/
def bytes (l : List Nat) : ByteArray := ⟨(l.map Nat.toUInt8).toArray⟩
noncomputable def sets : List (Nat × Value) → PT Value → PT Value
  | [], T => T
  | (t, v) :: l, T => sets l (T.set (t + 1) t (some v))
def codeAt : List Nat → Code → Code
  | [], c => c
  | 0 :: l, .seq a _ => codeAt l a
  | _ :: l, .seq _ b => codeAt l b
  | 0 :: l, .cond _ a _ => codeAt l a
  | _ :: l, .cond _ _ b => codeAt l b
  | _ :: l, .block _ b => codeAt l b
  | _ :: l, .loop b => codeAt l b
  | 0 :: l, .rangeFunc _ _ a _ => codeAt l a
  | _ :: l, .rangeFunc _ _ _ b => codeAt l b
  | _, c => c
noncomputable def bodyOf (C : Ctx) (f : FuncId) : Code :=
  match C.fn f with
  | some fn => match fn.body with
    | some c => c
    | none => .skip
  | none => .skip

def codeExits : Code → List Nat
  | .exit id => [id]
  | .seq a b => codeExits a ++ codeExits b
  | .cond _ a b => codeExits a ++ codeExits b
  | .block id b => (codeExits b).filter (· != id)
  | .loop b => codeExits b
  | .rangeFunc _ _ a b => codeExits a ++ codeExits b
  | _ => []
def dedup (l : List Nat) : List Nat := l.foldl (fun acc x => if acc.contains x then acc else acc ++ [x]) []
section
variable {β : Type}
noncomputable def kexit (e : LExit) (id : Nat) (a b : Option β) : Option β :=
  match e with
  | .exit i => match Nat.beq i id with
    | true => a
    | false => b
  | _ => b
noncomputable def kret (e : LExit) (a : Option β) : Option β := match e with | .ret => a | _ => none
noncomputable def knormal (e : LExit) (a b : Option β) : Option β := match e with | .normal => a | _ => b
noncomputable def kexits (e : LExit) : List Nat → (LExit → Option β) → Option β
  | [], K => kret e (K .ret)
  | id :: l, K => kexit e id (K (.exit id)) (kexits e l K)
theorem kexits_ok {e : LExit} {K : LExit → Option β} {r : β} : ∀ (l : List Nat), kexits e l K = some r → K e = some r := by
  intro l
  induction l with
  | nil =>
    intro h
    simp only [kexits, kret] at h
    split at h
    · exact h
    · cases h
  | cons id l ih =>
    intro h
    simp only [kexits, kexit] at h
    split at h
    · split at h
      · rename_i hb; rw [beq_t hb]; exact h
      · exact ih h
    · exact ih h
end

noncomputable def kcode (C : Ctx) (call : LCall) (round : LRound) (m : LMode) : Code → {β : Type} → KS → (LExit → KS → Option β) → Option β
  | .skip, _, s, K => K .normal s
  | .label _, _, s, K => K .normal s
  | .exit id, _, s, K => K (.exit id) s
  | .ret, _, s, K => K .ret s
  | .seq a b, _, s, K => kcode C call round m a s fun e s' => match e with
    | .normal => kcode C call round m b s' K
    | .exit id => K (.exit id) s'
    | .ret => K .ret s'
  | .cond x a b, _, s, K => kcond (keval s.over s.base x) (kcode C call round m a s K) (kcode C call round m b s K)
  | .block id b, _, s, K => kcode C call round m b s fun e s' => match e with
    | .exit id' => match Nat.beq id' id with
      | true => K .normal s'
      | false => K (.exit id') s'
    | .normal => K .normal s'
    | .ret => K .ret s'
  | .loop b, _, s, K => ko2 (literate (fun s => kcode C call round m b ⟨.nil, s.tmps, s.defers, s.heap⟩ fun e s' => some (e, s'.up)) lrounds s.up) fun e s' => kexits e (dedup (codeExits b)) fun e => K e ⟨.nil, s'.tmps, s'.defers, s'.heap⟩
  | .region _ ops false, _, s, K => kops C call round m ops ops.toList s fun s' => K .normal s'
  | .region _ ops true, _, s, K => kdraw C call round m ops s fun s' => K .normal s'
  | .rangeFunc g ps a b, _, s, K => ko2 (lcode C call round m (.rangeFunc g ps a b) s.up) fun e s' => knormal e (K .normal ⟨.nil, s'.tmps, s'.defers, s'.heap⟩) (kexits e (dedup (codeExits a ++ codeExits b)) fun e => K e ⟨.nil, s'.tmps, s'.defers, s'.heap⟩)
  | c, _, s, K => ko2 (lcode C call round m c s.up) fun e s' => K e ⟨.nil, s'.tmps, s'.defers, s'.heap⟩

theorem literate_mono {f g : LS → Option (LExit × LS)} (h : ∀ s r, f s = some r → g s = some r) : ∀ (n : Nat) (s : LS) (r : LExit × LS), literate f n s = some r → literate g n s = some r := by
  intro n
  induction n with
  | zero => intro s r h; cases h
  | succ n ih =>
    intro s r hr
    simp only [literate] at hr ⊢
    split at hr
    · rename_i s' hs
      rw [h _ _ hs]
      exact ih _ _ hr
    · rename_i hn
      rw [h _ _ hr]
      obtain ⟨e, s'⟩ := r
      cases e with
      | normal => exact absurd hr (hn _)
      | _ => rfl

theorem kcode_ok {C : Ctx} (hC : C.toTab.Ok C.P) {call : LCall} {round : LRound} {m : LMode} : ∀ (c : Code) {β : Type} (s : KS) (K : LExit → KS → Option β) (r : β), kcode C call round m c s K = some r → ∃ e s', lcode C call round m c s.up = some (e, s'.up) ∧ K e s' = some r := by
  intro c
  induction c with
  | skip => intro β s K r h; exact ⟨_, _, rfl, h⟩
  | label l => intro β s K r h; exact ⟨_, _, rfl, h⟩
  | exit id => intro β s K r h; exact ⟨_, _, rfl, h⟩
  | ret => intro β s K r h; exact ⟨_, _, rfl, h⟩
  | seq a b iha ihb =>
    intro β s K r h
    simp only [kcode] at h
    obtain ⟨e, s1, h1, h2⟩ := iha _ _ _ h
    simp only [lcode, h1]
    cases e with
    | normal => exact ihb _ _ _ h2
    | exit id => exact ⟨_, _, rfl, h2⟩
    | ret => exact ⟨_, _, rfl, h2⟩
  | cond x a b iha ihb =>
    intro β s K r h
    simp only [kcode] at h
    simp only [lcode]
    rw [← keval_up s.over s.base s.defers s.heap] at h
    rw [show s.up.eval x = LS.eval ⟨PT.over s.over s.base, s.defers, s.heap⟩ x from rfl]
    rcases kcond_ok h with ⟨h1, h2⟩ | ⟨h1, h2⟩
    · rw [h1]; exact iha _ _ _ h2
    · rw [h1]; exact ihb _ _ _ h2
  | block id b ih =>
    intro β s K r h
    simp only [kcode] at h
    obtain ⟨e, s1, h1, h2⟩ := ih _ _ _ h
    simp only [lcode, h1]
    cases e with
    | normal => exact ⟨_, _, rfl, h2⟩
    | ret => exact ⟨_, _, rfl, h2⟩
    | exit id' =>
      simp only at h2 ⊢
      split at h2
      · rename_i e1; rw [e1]; exact ⟨_, _, rfl, h2⟩
      · rename_i e1; rw [e1]; exact ⟨_, _, rfl, h2⟩
  | loop b ih =>
    intro β s K r h
    simp only [kcode] at h
    obtain ⟨⟨e, s'⟩, h1, h2⟩ := ko2_ok h
    refine ⟨e, ⟨.nil, s'.tmps, s'.defers, s'.heap⟩, ?_, kexits_ok (K := fun e => K e ⟨.nil, s'.tmps, s'.defers, s'.heap⟩) _ h2⟩
    simp only [lcode]
    refine literate_mono (fun s r hr => ?_) _ _ _ h1
    obtain ⟨e, s', g1, g2⟩ := ih _ _ _ hr
    injection g2 with g2; subst g2; exact g1
  | region id ops draw =>
    intro β s K r h
    cases draw with
    | false =>
      simp only [kcode] at h
      obtain ⟨s', h1, h2⟩ := kops_ok hC _ _ h
      exact ⟨_, _, by simp only [lcode, h1], h2⟩
    | true =>
      simp only [kcode] at h
      obtain ⟨s', h1, h2⟩ := kdraw_ok hC h
      exact ⟨_, _, by simp only [lcode, h1], h2⟩
  | rangeFunc g ps a b iha ihb =>
    intro β s K r h
    simp only [kcode] at h
    obtain ⟨⟨e, s'⟩, h1, h2⟩ := ko2_ok h
    refine ⟨e, ⟨.nil, s'.tmps, s'.defers, s'.heap⟩, h1, ?_⟩
    unfold knormal at h2
    simp only at h2
    split at h2
    · exact h2
    · exact kexits_ok (K := fun e => K e ⟨.nil, s'.tmps, s'.defers, s'.heap⟩) _ h2
  | _ =>
    intro β s K r h
    simp only [kcode] at h
    obtain ⟨⟨e, s'⟩, h1, h2⟩ := ko2_ok h
    exact ⟨e, ⟨.nil, s'.tmps, s'.defers, s'.heap⟩, h1, h2⟩

section
variable {β : Type}
noncomputable def kresults (C : Tab) (o b : PT Value) (H : LH) : List ResultVar → (List Value → Option β) → Option β
  | [], K => K []
  | .tmp t :: l, K => kresults C o b H l fun vs => K (keval o b (.tmp t) :: vs)
  | .cell a t :: l, K => ko (lload C H t (keval o b (.tmp a))) fun v => kresults C o b H l fun vs => K (v :: vs)
theorem kresults_ok {C : Tab} {o b : PT Value} {D : List Deferred} {H : LH} {r : β} : ∀ (l : List ResultVar) (K : List Value → Option β), kresults C o b H l K = some r → ∃ vs, lresults C ⟨PT.over o b, D, H⟩ l = some vs ∧ K vs = some r := by
  intro l
  induction l with
  | nil => intro K h; exact ⟨_, rfl, h⟩
  | cons x l ih =>
    intro K h
    cases x with
    | tmp t =>
      simp only [kresults] at h
      obtain ⟨vs, h1, h2⟩ := ih _ h
      exact ⟨_, by simp only [lresults, lresult, h1, keval_up], h2⟩
    | cell a t =>
      simp only [kresults] at h
      obtain ⟨v, h0, h⟩ := ko_ok h
      obtain ⟨vs, h1, h2⟩ := ih _ h
      exact ⟨_, by simp only [lresults, lresult, keval_up, h0, h1], h2⟩
noncomputable def kheld (H : LH) (r : Nat) : Option LH :=
  match H.at r with
  | some .held => some (H.put r none)
  | _ => none
noncomputable def kdefer1 (C : Ctx) (dcall : LDCall) (d : Deferred) (H : LH) (K : LH → Option β) : Option β :=
  match d.target with
  | .fn (.func f) captured => match C.ext f, C.fn f with
    | none, some _ => ko (dcall f (d.args.toList ++ captured.toList) H) K
    | _, _ => none
  | .collected r => ko (kheld H r) K
  | _ => none
noncomputable def kdefers (C : Ctx) (dcall : LDCall) : List Deferred → LH → (LH → Option β) → Option β
  | [], H, K => K H
  | d :: ds, H, K => kdefer1 C dcall d H fun H' => kdefers C dcall ds H' K
theorem kdefers_ok {C : Ctx} {dcall : LDCall} {K : LH → Option β} {r : β} : ∀ (ds : List Deferred) (H : LH), kdefers C dcall ds H K = some r → ∃ H', ldefers C dcall ds H = some H' ∧ K H' = some r := by
  intro ds
  induction ds with
  | nil => intro H h; exact ⟨H, rfl, h⟩
  | cons d ds ih =>
    intro H h
    simp only [kdefers, kdefer1] at h
    simp only [ldefers]
    split at h
    · rename_i f captured ht
      rw [ht]
      simp only
      split at h
      · rename_i fn h1 h2
        rw [h1, h2]
        obtain ⟨H', g1, g2⟩ := ko_ok h
        simp only [Array.toList_append, g1]
        exact ih _ g2
      · cases h
    · rename_i rr ht
      rw [ht]
      obtain ⟨H', g1, g2⟩ := ko_ok h
      unfold kheld at g1
      split at g1
      · rename_i hh
        injection g1 with g1; subst g1
        simp only [hh]
        exact ih _ g2
      · cases g1
    · cases h
noncomputable def kfin (C : Ctx) (dcall : LDCall) (rs : List ResultVar) (e : LExit) (s : KS) : Option (Value × LH) :=
  match e with
  | .exit _ => none
  | _ => kdefers C dcall s.defers s.heap fun H' => kresults C.toTab s.over s.base H' rs fun l => some (lvalue l, H')
noncomputable def kcall1 (C : Ctx) (call : LCall) (dcall : LDCall) (round : LRound) (f : FuncId) (args : List Value) (H : LH) : Option (Value × LH) :=
  match C.spec f with
  | some _ => none
  | none => match C.fn f with
    | some fn => match fn.body with
      | some c => match Nat.ble args.length fn.ntmps with
        | true => kcode C call round .plain c ⟨largs args 0 .nil, .nil, [], H⟩ (kfin C dcall fn.results.toList)
        | false => none
      | none => none
    | none => none
theorem kfin_ok {C : Ctx} {dcall : LDCall} {rs : List ResultVar} {e : LExit} {s : KS} {r : Value × LH} (h : kfin C dcall rs e s = some r) :
    (e = .normal ∨ e = .ret) ∧ ∃ H', ldefers C dcall s.defers s.heap = some H' ∧ ∃ l, lresults C.toTab { s.up with heap := H' } rs = some l ∧ r = (lvalue l, H') := by
  unfold kfin at h
  split at h
  · cases h
  · rename_i hne
    obtain ⟨H', h1, h2⟩ := kdefers_ok _ _ h
    obtain ⟨l, h3, h4⟩ := kresults_ok (D := s.defers) _ _ h2
    injection h4 with h4
    refine ⟨?_, H', h1, l, h3, h4.symm⟩
    cases e with
    | exit id => exact absurd rfl (hne id)
    | normal => exact .inl rfl
    | ret => exact .inr rfl
theorem kcall1_ok {C : Ctx} (hC : C.toTab.Ok C.P) {call : LCall} {dcall : LDCall} {round : LRound} {f : FuncId} {args : List Value} {H : LH} {r : Value × LH} (h : kcall1 C call dcall round f args H = some r) : lcall1 C call dcall round f args H = some r := by
  unfold kcall1 at h
  unfold lcall1
  split at h
  · cases h
  · rename_i hs
    rw [hs]
    simp only
    split at h
    · rename_i fn hf
      rw [hf]
      simp only
      split at h
      · rename_i c hc
        rw [hc]
        simp only
        split at h
        · rename_i hb
          rw [hb]
          simp only
          obtain ⟨e, s', h1, h2⟩ := kcode_ok hC _ _ _ _ h
          rw [show KS.up ⟨largs args 0 .nil, .nil, [], H⟩ = { tmps := largs args 0 .nil, defers := [], heap := H } by simp only [KS.up, PT.over_nil]] at h1
          obtain ⟨he, H', h3, l, h4, h5⟩ := kfin_ok h2
          rw [h1]
          rcases he with rfl | rfl
          · simp only [KS.up] at h4 ⊢; simp only [h3, h4, h5]
          · simp only [KS.up] at h4 ⊢; simp only [h3, h4, h5]
        · cases h
      · cases h
    · cases h
end

/-! ### Deferred calls -/
noncomputable def kcodeD (C : Ctx) (call : LCall) (round : LRound) {β : Type} : Code → KS → (LExit → KS → Option β) → Option β
  | .seq a b, s, K => kcodeD C call round a s fun e s' => match e with
    | .normal => kcodeD C call round b s' K
    | .exit id => K (.exit id) s'
    | .ret => K .ret s'
  | .cond x a b, s, K => kcond (keval s.over s.base x) (kcodeD C call round a s K) (kcodeD C call round b s K)
  | .region _ ops false, s, K => kops C call round .deferred ops ops.toList s fun s' => K .normal s'
  | .region _ ops true, s, K => kdraw C call round .deferred ops s fun s' => K .normal s'
  | c, s, K => kcode C call round .plain c s K
theorem kcodeD_ok {C : Ctx} (hC : C.toTab.Ok C.P) {call : LCall} {round : LRound} {β : Type} : ∀ (c : Code) (s : KS) (K : LExit → KS → Option β) (r : β), kcodeD C call round c s K = some r → ∃ e s', lcodeD C call round c s.up = some (e, s'.up) ∧ K e s' = some r := by
  intro c
  induction c with
  | seq a b iha ihb =>
    intro s K r h
    simp only [kcodeD] at h
    obtain ⟨e, s1, h1, h2⟩ := iha _ _ _ h
    simp only [lcodeD, h1]
    cases e with
    | normal => exact ihb _ _ _ h2
    | exit id => exact ⟨_, _, rfl, h2⟩
    | ret => exact ⟨_, _, rfl, h2⟩
  | cond x a b iha ihb =>
    intro s K r h
    simp only [kcodeD] at h
    simp only [lcodeD]
    rw [← keval_up s.over s.base s.defers s.heap] at h
    rw [show s.up.eval x = LS.eval ⟨PT.over s.over s.base, s.defers, s.heap⟩ x from rfl]
    rcases kcond_ok h with ⟨h1, h2⟩ | ⟨h1, h2⟩
    · rw [h1]; exact iha _ _ _ h2
    · rw [h1]; exact ihb _ _ _ h2
  | region id ops draw =>
    intro s K r h
    cases draw with
    | false =>
      simp only [kcodeD] at h
      obtain ⟨s', h1, h2⟩ := kops_ok hC _ _ h
      exact ⟨_, _, by simp only [lcodeD, h1], h2⟩
    | true =>
      simp only [kcodeD] at h
      obtain ⟨s', h1, h2⟩ := kdraw_ok hC h
      exact ⟨_, _, by simp only [lcodeD, h1], h2⟩
  | _ =>
    intro s K r h
    simp only [kcodeD] at h
    simp only [lcodeD]
    exact kcode_ok hC _ _ _ _ h
noncomputable def kfinD (e : LExit) (s : KS) : Option (Value × LH) :=
  match e with
  | .exit _ => none
  | _ => match s.defers with
    | [] => some (.tuple #[], s.heap)
    | _ => none
noncomputable def kdcall1 (C : Ctx) (call : LCall) (round : LRound) (f : FuncId) (args : List Value) (H : LH) : Option (Value × LH) :=
  match C.spec f with
  | some _ => none
  | none => match C.fn f with
    | some fn => match fn.body, fn.results.toList with
      | some c, [] => match Nat.ble args.length fn.ntmps with
        | true => kcodeD C call round c ⟨largs args 0 .nil, .nil, [], H⟩ kfinD
        | false => none
      | _, _ => none
    | none => none
theorem kdcall1_ok {C : Ctx} (hC : C.toTab.Ok C.P) {call : LCall} {round : LRound} {f : FuncId} {args : List Value} {H : LH} {r : Value × LH} (h : kdcall1 C call round f args H = some r) : ldcall1 C call round f args H = some r.2 := by
  unfold kdcall1 at h
  unfold ldcall1
  split at h
  · cases h
  · rename_i hs
    rw [hs]
    simp only
    split at h
    · rename_i fn hf
      rw [hf]
      simp only
      split at h
      · rename_i c hc hr
        rw [hc, hr]
        simp only
        split at h
        · rename_i hb
          rw [hb]
          simp only
          obtain ⟨e, s', h1, h2⟩ := kcodeD_ok hC _ _ _ _ h
          rw [show KS.up ⟨largs args 0 .nil, .nil, [], H⟩ = { tmps := largs args 0 .nil, defers := [], heap := H } by simp only [KS.up, PT.over_nil]] at h1
          rw [h1]
          unfold kfinD at h2
          cases e with
          | exit id => cases h2
          | normal =>
            simp only at h2
            split at h2
            · rename_i hd; injection h2 with h2; subst h2; simp only [KS.up, hd]
            · cases h2
          | ret =>
            simp only at h2
            split at h2
            · rename_i hd; injection h2 with h2; subst h2; simp only [KS.up, hd]
            · cases h2
        · cases h
      · cases h
    · cases h

noncomputable def ldcall (C : Ctx) (n : Nat) : LDCall := (ldeep C n).2.1
noncomputable def lround (C : Ctx) (n : Nat) : LRound := (ldeep C n).2.2
theorem lcall_succ (C : Ctx) (n : Nat) : lcall C (n + 1) = lcall1 C (lcall C n) (ldcall C n) (lround C n) := rfl
theorem ldcall_succ (C : Ctx) (n : Nat) : ldcall C (n + 1) = ldcall1 C (lcall C n) (lround C n) := rfl
theorem lround_succ (C : Ctx) (n : Nat) : lround C (n + 1) = lround1 C (lcall C n) (lround C n) := rfl
theorem lcall_k {C : Ctx} (hC : C.toTab.Ok C.P) {n : Nat} {f : FuncId} {args : List Value} {H : LH} {r : Value × LH} (h : kcall1 C (lcall C n) (ldcall C n) (lround C n) f args H = some r) : lcall C (n + 1) f args H = some r := by
  rw [lcall_succ]; exact kcall1_ok hC h
theorem ldcall_k {C : Ctx} (hC : C.toTab.Ok C.P) {n : Nat} {f : FuncId} {args : List Value} {H : LH} {r : Value × LH} (h : kdcall1 C (lcall C n) (lround C n) f args H = some r) : ldcall C (n + 1) f args H = some r.2 := by
  rw [ldcall_succ]; exact kdcall1_ok hC h
theorem lcall_spec {C : Ctx} {n : Nat} {f : FuncId} {args : List Value} {H : LH} {s : List Value → LH → Option (Value × LH)} (h : C.spec f = some s) : lcall C (n + 1) f args H = s args H := by
  rw [lcall_succ]; unfold lcall1; rw [h]
end Go.Proofs.YtiedaccgagnofaaGreat
