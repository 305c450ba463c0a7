/- The second run, with what follows handed on: the shape in which calls are told in other texts. -/
import Derived.Test.YtiedaccgagnofaaGreatRk
namespace Go.Proofs.YtiedaccgagnofaaGreat
open Go.RowKit

section
variable {β : Type}
noncomputable def ko {α : Type} (x : Option α) (f : α → Option β) : Option β := match x with | some a => f a | none => none
noncomputable def ko2 {α γ : Type} (x : Option (α × γ)) (f : α → γ → Option β) : Option β := match x with | some p => f p.1 p.2 | none => none
noncomputable def ktest (b : Bool) (k : Option β) : Option β := match b with | true => k | false => none
noncomputable def kcond (v : Value) (a b : Option β) : Option β := match v with | .bool true => a | .bool false => b | _ => none

theorem ko_ok {α : Type} {x : Option α} {f : α → Option β} {r : β} (h : ko x f = some r) : ∃ a, x = some a ∧ f a = some r := by
  cases x with
  | none => cases h
  | some a => exact ⟨a, rfl, h⟩
theorem ko2_ok {α γ : Type} {x : Option (α × γ)} {f : α → γ → Option β} {r : β} (h : ko2 x f = some r) : ∃ p : α × γ, x = some p ∧ f p.1 p.2 = some r := by
  cases x with
  | none => cases h
  | some a => exact ⟨a, rfl, h⟩
theorem ktest_ok {b : Bool} {k : Option β} {r : β} (h : ktest b k = some r) : b = true ∧ k = some r := by
  cases b with
  | false => cases h
  | true => exact ⟨rfl, h⟩
theorem kcond_ok {v : Value} {a b : Option β} {r : β} (h : kcond v a b = some r) : (v = .bool true ∧ a = some r) ∨ (v = .bool false ∧ b = some r) := by
  unfold kcond at h
  split at h
  · exact .inl ⟨rfl, h⟩
  · exact .inr ⟨rfl, h⟩
  · cases h

noncomputable def kpick (c a b : Value) : Option Value := match c with | .bool true => some a | .bool false => some b | _ => none
noncomputable def klen (C : Tab) (H : LH) (t : TypeId) (x : Value) : Option Value :=
  match x, C.desc t with
  | .slice _ n _, some (.slice _) => some (goInt n)
  | .string b, some .string => some (goInt b.data.toList.length)
  | .map _, some (.map _ _) => match lmapOf H x with
    | some (es, _) => some (goInt es.size)
    | none => none
  | _, _ => none
/-- A computation without memory, whose value has no place. -/
noncomputable def kprun (P : Program) (s : Sem Value) : Option Value :=
  match prun P (do pure (Next.value (← s))) with
  | some (.value v) => match flat1 v with
    | true => some v
    | false => none
  | _ => none
noncomputable def kflat (P : Program) (l : List Value) (s : Sem Value) : Option Value :=
  match l.all flat1 with
  | true => kprun P s
  | false => none
noncomputable def kbinFlat (P : Program) (op : BinOp) (t : TypeId) (xo yo : Operand) (x y : Value) : Option Value := kflat P [x, y] (do eqGuard op t xo yo x y; binOp op t x y)
/-- == between values without places. -/
noncomputable def keqv (C : Tab) (t : TypeId) (x y : Value) : Option Bool :=
  match C.desc t, x, y with
  | some (.pointer _), .pointer none, .pointer none => some true
  | some (.slice _), .slice none _ _, .slice none _ _ => some true
  | some (.map _ _), .map none, .map none => some true
  | some .bool, .bool a, .bool b => some (a == b)
  | some .string, .string a, .string b => some (a.toList == b.toList)
  | _, _, _ => none
noncomputable def kbin (C : Ctx) (op : BinOp) (t : TypeId) (xo yo : Operand) (x y : Value) : Option Value :=
  match lints op x y with
  | some r => some r
  | none => match flat x && flat y with
    | true => match op with
      | .eql => match keqv C.toTab t x y with
        | some b => some (.bool b)
        | none => kbinFlat C.P op t xo yo x y
      | .neq => match keqv C.toTab t x y with
        | some b => some (.bool !b)
        | none => kbinFlat C.P op t xo yo x y
      | _ => kbinFlat C.P op t xo yo x y
    | false => match op with
      | .eql => match leq C.toTab t x y with
        | some b => some (.bool (b == true))
        | none => kbinFlat C.P op t xo yo x y
      | .neq => match leq C.toTab t x y with
        | some b => some (.bool (b == false))
        | none => kbinFlat C.P op t xo yo x y
      | _ => none
noncomputable def kun (C : Ctx) (op : UnOp) (x : Value) : Option Value :=
  match op, x with
  | .not, .bool b => some (.bool !b)
  | _, _ => kflat C.P [x] (Op.unary op x)
noncomputable def kconv (C : Ctx) (H : LH) (src dst : TypeId) (x : Value) : Option Value :=
  match x with
  | .int _ n => match C.desc src, C.desc dst with
    | some _, some (.int k) => some (.int k (lwrap k n))
    | _, _ => kflat C.P [x] (convert src dst x)
  | .slice (some a) _ _ => match Nat.beq src dst with
    | true => match C.desc dst, H.at a.block with
      | some (.slice e), some (.cells _ _ _) => match C.desc e with
        | some (.int .u8) => some x
        | _ => none
      | _, _ => none
    | false => ltoString C.toTab H src dst x
  | .slice none _ _ => ltoString C.toTab H src dst x
  | _ => kflat C.P [x] (convert src dst x)
noncomputable def kindex (C : Ctx) (t : TypeId) (x i : Value) : Option Value :=
  match x with
  | .agg _ => ifFlat i (lindexAgg C.toTab t x i)
  | .string b => match i, C.desc t with
    | .int _ n, some .string => lbyteAt b n
    | _, _ => none
  | _ => none
noncomputable def kslice (C : Ctx) (H : LH) (t : TypeId) (x : Value) (lo hi mx : Option Value) : Option Value :=
  match x with
  | .slice _ _ _ => ifFlat? lo (ifFlat? hi (ifFlat? mx (lslice C.toTab H t x lo hi mx)))
  | .pointer _ => ifFlat? lo (ifFlat? hi (ifFlat? mx (lsliceArr C.toTab t x lo hi mx)))
  | _ => kflat C.P ([x] ++ lo.toList ++ hi.toList ++ mx.toList) (Instr.sliceAt t x lo hi mx)
noncomputable def kassert (C : Ctx) (x : Value) (xt t : TypeId) (ok : Bool) : Option Value :=
  match x with
  | .iface _ _ => lassert C.toTab x t ok
  | _ => kflat C.P [x] (Instr.typeAssert x xt t ok)
/-- Operands told anew: what is no constant, by its place. -/
def kargs : List Operand → Nat → List Operand
  | [], _ => []
  | x :: l, i => (match x with | .const v => .const v | _ => .tmp i) :: kargs l (i + 1)
noncomputable def evl (l : List Value) : Operand → Value
  | .const v => v
  | .tmp i => (l[i]?).getD undef
  | _ => undef
noncomputable def kflatCall (P : Program) (o : Oper) (c : Call) (l : List Value) : Option Value :=
  match l.all flat1 with
  | true => match prun P (do let d ← resolve (evl l) { c with args := (kargs c.args.toList 0).toArray } o.type; invoke d.target d.args) with
    | some (.value v) => match flat1 v with
      | true => some v
      | false => none
    | _ => none
  | false => none

/-- An operation that changes nothing. -/
noncomputable def kval (C : Ctx) (ρ : Operand → Value) (H : LH) (o : Oper) (K : Value → Option β) : Option β :=
  match o.op with
  | .move x => K (ρ x)
  | .assign x => K (ρ x)
  | .pick c a b => ko (kpick (ρ c) (ρ a) (ρ b)) K
  | .build t parts => ko (lbuild C.toTab t (parts.toList.map fun p => (p.1, ρ p.2))) K
  | .load t a => ko (lload C.toTab H t (ρ a)) K
  | .nilCheck x => ko (lnilCheck C (ρ x)) K
  | .fieldAddr st x f => ko (lfieldAddr C.toTab st (ρ x) f) K
  | .field t x f => ko (lfield C.toTab t (ρ x) f) K
  | .indexAddr t x i => ko (ifFlat (ρ i) (lindexAddr C.toTab t (ρ x) (ρ i))) K
  | .index t x i => ko (kindex C t (ρ x) (ρ i)) K
  | .slice t x lo hi mx => ko (kslice C H t (ρ x) (lo.map ρ) (hi.map ρ) (mx.map ρ)) K
  | .extract t i => ko (lextract (ρ t) i) K
  | .makeInterface t x => ko (lmakeIface C.toTab t (ρ x)) K
  | .makeFunc fn first captured => match calm fn with
    | true => K (.func fn (first.map ρ) (captured.map ρ))
    | false => none
  | .typeAssert x xt t ok => ko (kassert C (ρ x) xt t ok) K
  | .lookup t x k ok => ko (ifFlat (ρ k) (llookup C.toTab H t (ρ x) (ρ k) ok)) K
  | .entry x => ko (lentry H (ρ x)) K
  | .binOp op t x y _ => ko (kbin C op t x y (ρ x) (ρ y)) K
  | .convert src dst x => ko (kconv C H src dst (ρ x)) K
  | .unOp op _ x => ko (kun C op (ρ x)) K
  | .call c => match c.callee with
    | .builtin b => match b, c.args.toList.map ρ, c.argTypes.toList with
      | .append, _, _ => none
      | .copy, _, _ => none
      | .delete, _, _ => none
      | .recover, _, _ => none
      | .len, [x], [t] => ko (klen C.toTab H t x) K
      | _, vs, _ => ko (kflatCall C.P o c vs) K
    | _ => none
  | _ => none

section
variable {C : Ctx} {ρ : Operand → Value} {H : LH} {o : Oper}
theorem prun_bind {α γ : Type} (P : Program) (f : α → Sem γ) : ∀ (s : Sem α), prun P (s >>= f) = match prun P s with | some a => prun P (f a) | none => none := by
  intro s
  show prun P (Sem.bind s f) = _
  induction s with
  | pure a => rfl
  | program k ih => exact ih P
  | mark t k ih => simp only [Sem.bind, prun]; exact ih
  | choose q k ih =>
    simp only [Sem.bind, prun]
    split
    · exact ih 0
    · rfl
  | _ => rfl
theorem kprun_ok {P : Program} {sv : Sem Value} {v : Value} (h : kprun P sv = some v) : prun P (do pure (Next.value (← sv))) = some (.value v) ∧ flat1 v = true := by
  unfold kprun at h
  split at h
  · rename_i v' hv
    split at h
    · rename_i hf
      injection h with h; subst h
      exact ⟨hv, hf⟩
    · cases h
  · cases h
theorem kflat_ok {l : List Value} {sv : Sem Value} {v : Value} (h : kflat C.P l sv = some v) (hl : (o.op.operands.toList.map ρ) = l) (hx : execOp ρ o = (do pure (Next.value (← sv)))) (H : LH) :
    lflat C.P ρ o H = some (.value v, H) := by
  unfold kflat at h
  split at h
  · rename_i ha
    obtain ⟨h1, h2⟩ := kprun_ok h
    unfold lflat
    have : (o.op.operands.toList.all fun x => flat1 (ρ x)) = true := by
      rw [← hl, List.all_map] at ha; exact ha
    rw [this, hx, h1]
    simp only [h2]
  · cases h

theorem okv_some {H : LH} {x : Option Value} {v : Value} (h : x = some v) : okv H x = some (.value v, H) := by rw [h]; rfl
theorem ifFlat_okv {H : LH} {i : Value} {x : Option Value} {v : Value} (h : ifFlat i x = some v) : ifFlat i (okv H x) = some (.value v, H) := by
  unfold ifFlat at h ⊢
  split at h
  · rw [h]; rfl
  · cases h
theorem ifFlat?_okv {H : LH} {i : Option Value} {x : Option Value} {y : Option (LNext × LH)} {v : Value} (hxy : ∀ v, x = some v → y = some (.value v, H)) (h : ifFlat? i x = some v) : ifFlat? i y = some (.value v, H) := by
  unfold ifFlat? at h ⊢
  cases i with
  | none => exact hxy v h
  | some i =>
    simp only [ifFlat] at h ⊢
    split at h
    · exact hxy v h
    · cases h

theorem prun_underlying {P : Program} {t : TypeId} {d : TypeDesc} (h : P.underlying t = some d) : prun P (underlying t) = some d := by
  unfold underlying
  simp only [Go.program, prun_bind, prun, h]
  rfl
theorem prun_pure {α : Type} (P : Program) (a : α) : prun P (pure a) = some a := rfl
section
variable {P : Program} (n : Nat) {t : TypeId}
theorem peq_ptr {e : TypeId} (h : P.underlying t = some (.pointer e)) : prun P (Op.equalIn (n + 1) t (.pointer none) (.pointer none)) = some true := by
  rw [Op.equalIn, prun_bind, prun_underlying h]; rfl
theorem peq_slice {e : TypeId} (h : P.underlying t = some (.slice e)) (a b c d : Nat) : prun P (Op.equalIn (n + 1) t (.slice none a b) (.slice none c d)) = some true := by
  rw [Op.equalIn, prun_bind, prun_underlying h]; rfl
theorem peq_map {k e : TypeId} (h : P.underlying t = some (.map k e)) : prun P (Op.equalIn (n + 1) t (.map none) (.map none)) = some true := by
  rw [Op.equalIn, prun_bind, prun_underlying h]; rfl
theorem peq_bool (h : P.underlying t = some .bool) (a b : Bool) : prun P (Op.equalIn (n + 1) t (.bool a) (.bool b)) = some (a == b) := by
  rw [Op.equalIn, prun_bind, prun_underlying h]; rfl
end
theorem keqv_eq (hC : C.toTab.Ok C.P) {t : TypeId} {x y : Value} {b : Bool} (xo yo : Operand) (h : keqv C.toTab t x y = some b) :
    prun C.P (do pure (Next.value (← (do eqGuard .eql t xo yo x y; binOp .eql t x y)))) = some (.value (.bool b)) ∧ prun C.P (do pure (Next.value (← (do eqGuard .neq t xo yo x y; binOp .neq t x y)))) = some (.value (.bool !b)) := by
  have key : ∀ {x y : Value}, prun C.P (Op.equalIn 10000 t x y) = some b →
      prun C.P (((Op.equal t x y) >>= fun b => pure (Value.bool b)) >>= fun v => pure (Next.value v)) = some (.value (.bool b)) ∧ prun C.P (((Op.equal t x y) >>= fun b => pure (Value.bool !b)) >>= fun v => pure (Next.value v)) = some (.value (.bool !b)) := by
    intro x y hp
    have hp : prun C.P (Op.equal t x y) = some b := hp
    exact ⟨by rw [prun_bind, prun_bind, hp]; rfl, by rw [prun_bind, prun_bind, hp]; rfl⟩
  unfold keqv at h
  split at h
  · rename_i e hd; injection h with h; subst h; exact key (peq_ptr 9999 (hC.desc _ _ hd))
  · rename_i e _ _ _ _ hd; injection h with h; subst h; exact key (peq_slice 9999 (hC.desc _ _ hd) _ _ _ _)
  · rename_i k e hd; injection h with h; subst h; exact key (peq_map 9999 (hC.desc _ _ hd))
  · rename_i a b hd; injection h with h; subst h; exact key (peq_bool 9999 (hC.desc _ _ hd) _ _)
  · injection h with h; subst h; exact ⟨rfl, rfl⟩
  · cases h
theorem flat1_of {v : Value} (h : flat v = true) : flat1 v = true := by cases v <;> first | exact h | (simp [flat] at h)
theorem kbin_ok (hC : C.toTab.Ok C.P) {op : BinOp} {t u : TypeId} {xo yo : Operand} {v : Value} (ho : o.op = .binOp op t xo yo u) (h : kbin C op t xo yo (ρ xo) (ρ yo) = some v) :
    lopBin C ρ H o op t (ρ xo) (ρ yo) = some (.value v, H) := by
  have hfl : ∀ {v}, kbinFlat C.P op t xo yo (ρ xo) (ρ yo) = some v → lflat C.P ρ o H = some (.value v, H) := by
    intro v hv
    unfold kbinFlat at hv
    refine kflat_ok hv ?_ ?_ _
    · rw [ho]; rfl
    · unfold execOp; rw [ho]
  unfold kbin at h
  unfold lopBin
  split at h
  · rename_i r hr
    injection h with h; subst h
    rw [hr]
  · rename_i hr
    rw [hr]
    unfold lopBin2
    simp only
    split at h
    · rename_i hf
      rw [hf]
      have hf2 : ([ρ xo, ρ yo] : List Value).all flat1 = true := by
        simp only [Bool.and_eq_true] at hf
        simp only [List.all_cons, List.all_nil, Bool.and_true, Bool.and_eq_true]
        exact ⟨flat1_of hf.1, flat1_of hf.2⟩
      cases op with
      | eql =>
        simp only at h
        split at h
        · rename_i b hb
          injection h with h; subst h
          exact hfl (by unfold kbinFlat kflat; rw [hf2]; unfold kprun; simp only [(keqv_eq hC xo yo hb).1]; rfl)
        · exact hfl h
      | neq =>
        simp only at h
        split at h
        · rename_i b hb
          injection h with h; subst h
          exact hfl (by unfold kbinFlat kflat; rw [hf2]; unfold kprun; simp only [(keqv_eq hC xo yo hb).2]; rfl)
        · exact hfl h
      | _ => exact hfl h
    · rename_i hf
      rw [hf]
      cases op with
      | eql =>
        simp only [lopEq] at h ⊢
        split at h
        · rename_i b hb; rw [hb]; injection h with h; subst h; rfl
        · rename_i hb; rw [hb]; exact hfl h
      | neq =>
        simp only [lopEq] at h ⊢
        split at h
        · rename_i b hb; rw [hb]; injection h with h; subst h; rfl
        · rename_i hb; rw [hb]; exact hfl h
      | _ => cases h
theorem klen_ok {t : TypeId} {x v : Value} (h : klen C.toTab H t x = some v) : lopLen C ρ H o x t = some (.value v, H) := by
  unfold klen at h
  unfold lopLen
  split at h
  · rename_i d _ _ _ hd; rw [hd]; injection h with h; subst h; rfl
  · rename_i b hd; rw [hd]; injection h with h; subst h; rfl
  · rename_i r k e hd
    rw [hd]
    simp only
    split at h
    · rename_i es c hm; rw [hm]; injection h with h; subst h; rfl
    · cases h
  · cases h

theorem kargs_map {f : Operand → Value} (hf : ∀ v, f (.const v) = v) : ∀ (xs : List Operand) (i : Nat) (L : List Value), (∀ (j : Nat) (x : Operand), xs[j]? = some x → L[i + j]? = some (f x)) → (kargs xs i).map (evl L) = xs.map f
  | [], _, _, _ => rfl
  | x :: xs, i, L, h => by
    have ih := kargs_map hf xs (i + 1) L fun j x hx => by have := h (j + 1) x (by simpa using hx); rw [← this]; congr 1; omega
    have h0 := h 0 x rfl
    simp only [kargs, List.map_cons, ih]
    congr 1
    cases x with
    | const v => simp [evl, hf]
    | _ => simp only [evl]; simp only [Nat.add_zero] at h0; rw [h0]; rfl
theorem kargs_const {γ : Type} (g : Operand → γ) (hg : ∀ (x : Operand) (i : Nat), (∀ v, x ≠ .const v) → g x = g (.tmp i)) : ∀ (xs : List Operand) (i : Nat), (kargs xs i).map g = xs.map g
  | [], _ => rfl
  | x :: xs, i => by
    simp only [kargs, List.map_cons, kargs_const g hg xs (i + 1)]
    congr 1
    cases x with
    | const v => rfl
    | _ => exact (hg _ i (fun v h => by cases h)).symm
theorem kflatCall_ok (hρ : ∀ v, ρ (.const v) = v) {c : Call} {b : Builtin} {v : Value} (ho : o.op = .call c) (hc : c.callee = .builtin b) (h : kflatCall C.P o c (c.args.toList.map ρ) = some v) : lflat C.P ρ o H = some (.value v, H) := by
  unfold kflatCall at h
  split at h
  · rename_i ha
    split at h
    · rename_i v' hv
      split at h
      · rename_i hf
        injection h with h; subst h
        unfold lflat
        have h1 : (o.op.operands.toList.all fun x => flat1 (ρ x)) = true := by
          rw [ho]
          simp only [Op.operands, Call.operands, hc, Array.empty_append]
          rw [List.all_map] at ha; exact ha
        have h2 : execOp ρ o = (do let d ← resolve (evl (c.args.toList.map ρ)) { c with args := (kargs c.args.toList 0).toArray } o.type; invoke d.target d.args) := by
          unfold execOp
          rw [ho]
          simp only
          congr 1
          unfold resolve
          simp only [hc]
          have e1 : (Array.map (evl (c.args.toList.map ρ)) (kargs c.args.toList 0).toArray) = c.args.map ρ := by
            apply Array.toList_inj.1
            simp only [List.map_toArray, Array.toList_map]
            exact kargs_map hρ _ 0 _ fun j x hx => by simp only [Nat.zero_add, List.getElem?_map, hx]; rfl
          have e2 : ∀ {γ : Type} (g : Operand → γ), (∀ (x : Operand) (i : Nat), (∀ v, x ≠ .const v) → g x = g (.tmp i)) → Array.map g (kargs c.args.toList 0).toArray = c.args.map g := by
            intro γ g hg
            apply Array.toList_inj.1
            simp only [List.map_toArray, Array.toList_map]
            exact kargs_const g hg _ 0
          simp only [e1]
          rw [e2 _ fun x i hx => by cases x <;> first | rfl | exact absurd rfl (hx _)]
        rw [h1, h2, hv]
        simp only [hf]
      · cases h
    · cases h
  · cases h
end
end
end Go.Proofs.YtiedaccgagnofaaGreat
