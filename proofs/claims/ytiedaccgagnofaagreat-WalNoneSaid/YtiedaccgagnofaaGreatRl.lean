/- The tables are right. -/
import Derived.Test.YtiedaccgagnofaaGreatTab
import Derived.Test.YtiedaccgagnofaaGreatRk
namespace Go.Proofs.YtiedaccgagnofaaGreat
open Go.RowKit
set_option maxRecDepth 1000000

/-- What a tree holds, in a row. -/
noncomputable def PT.rows {α : Type} (t : PT α) : List (Nat × α) :=
  PT.rec (motive := fun _ => List (Nat × α)) []
    (fun _ v _ l r => (match v with | some a => [(0, a)] | none => []) ++ l.map (fun p => (2 * p.1 + 1, p.2)) ++ r.map (fun p => (2 * p.1 + 2, p.2))) t
theorem PT.rows_mem {α : Type} (t : PT α) : ∀ (n : Nat) (a : α), t.get n = some a → (n, a) ∈ t.rows := by
  induction t with
  | nil => intro n a h; simp [PT.get_nil] at h
  | node l v r ihl ihr =>
    intro n a h
    rw [PT.get_node] at h
    show (n, a) ∈ (match v with | some a => [(0, a)] | none => []) ++ l.rows.map (fun p => (2 * p.1 + 1, p.2)) ++ r.rows.map (fun p => (2 * p.1 + 2, p.2))
    by_cases h0 : n = 0
    · subst h0
      rw [if_pos rfl] at h
      subst h
      simp
    · rw [if_neg h0] at h
      by_cases h1 : n % 2 = 1
      · rw [if_pos h1] at h
        refine List.mem_append_left _ (List.mem_append_right _ (List.mem_map.2 ⟨(n / 2, a), ihl _ _ h, ?_⟩))
        congr 1
        show 2 * (n / 2) + 1 = n
        omega
      · rw [if_neg h1] at h
        refine List.mem_append_right _ (List.mem_map.2 ⟨(n / 2 - 1, a), ihr _ _ h, ?_⟩)
        congr 1
        show 2 * (n / 2 - 1) + 2 = n
        omega
theorem rows_map {α β : Type} {l : List (Nat × α)} {f g : Nat × α → β} (h : l.map f = l.map g) {x : Nat × α} (hx : x ∈ l) : f x = g x := List.map_inj_left.1 h x hx

theorem desc_rows : (descP.rows.map fun p => Tryz.prog.underlying p.1) = descP.rows.map fun p => some p.2 := by kernel_rfl
theorem info_rows : (infoP.rows.map fun p => (Tryz.prog.info? p.1).map fun i => (i.zero, i.size, i.bytes)) = infoP.rows.map fun p => some (some p.2.1, p.2.2.1, p.2.2.2) := by kernel_rfl
theorem info_flat : (infoP.rows.all fun p => Nat.beq p.2.1.cells.toList.length p.2.2.1 && p.2.1.cells.toList.all flat) = true := by kernel_rfl
theorem fn_rows : (fnP.rows.map fun p => Tryz.prog.funcs[p.1]?) = fnP.rows.map fun p => some p.2 := by kernel_rfl
theorem fn_body : (fnP.rows.all fun p => p.2.body.isSome && !(p.2.name == "runtime.NumGoroutine")) = true := by kernel_rfl
theorem fn_code : (fnP.rows.all fun p => funcOk p.2) = true := by kernel_rfl
theorem mixed_row : Tryz.prog.follows .mixedOrders = true := by kernel_rfl
end Go.Proofs.YtiedaccgagnofaaGreat
