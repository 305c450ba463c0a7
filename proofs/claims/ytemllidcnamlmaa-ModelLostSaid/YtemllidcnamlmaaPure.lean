/- The state of package model as plain data, and what its inner steps do to it ('none': it may not be). -/
import Derived.Laws.BytesArg
namespace Go.Proofs.Ytemllidcnamlmaa

structure MS where
  base : Int
  first : Int
  durable : Int
  next : Int
  limit : Int
  recs : List (List Int)
  failed : Bool
  closed : Bool

/-- A call: its kind, its LSN, its data. -/
structure CM where
  kind : Int
  lsn : Int
  data : List Int

/-- A result. -/
structure RM where
  err : Int
  lsn : Int
  data : List Int

def top : Int := 9223372036854775807
def eqB (xs ys : List Int) : Bool := (strOfNums xs).toList == (strOfNums ys).toList

namespace MS
def sane (m : MS) : Prop := m.failed = false ∧ m.closed = false
instance (m : MS) : Decidable m.sane := by unfold sane; infer_instance
def add (m : MS) (lsn : Int) (data : List Int) : Option MS :=
  if m.sane ∧ data.length ≤ 4096 ∧ lsn = m.next ∧ lsn < top then some { m with recs := m.recs ++ [data], next := m.next + 1 } else none
def raise (m : MS) (n : Int) : Option MS := if n ≤ m.limit then some { m with durable := max m.durable n } else none
def front (m : MS) (lsn : Int) : Option MS := if lsn ≤ m.next then (m.raise lsn).map fun k => { k with first := lsn } else none
def fail (m : MS) : MS := { m with failed := true }
def shut (m : MS) : MS := { m with closed := true }
def nth (m : MS) (lsn : Int) : List Int := m.recs.getD (lsn - m.base).toNat []
def read (m : MS) (c : CM) (r : RM) : Option MS :=
  if r.err = 0 then
    if r.lsn = c.lsn ∧ m.first ≤ c.lsn ∧ c.lsn < m.next ∧ eqB r.data (m.nth c.lsn) = true then m.raise (c.lsn + 1) else none
  else if r.lsn ≠ 0 then none
  else if r.err = 43 then (if c.lsn < m.first then some m else none)
  else if r.err = 22 then (if m.first ≤ c.lsn ∧ c.lsn < m.next then some m else none)
  else if r.err = 42 ∧ c.kind = 4 then (if m.durable ≤ c.lsn ∧ m.first ≤ c.lsn then some m else none)
  else if r.err = 40 ∧ c.kind = 5 then (if m.durable ≤ c.lsn then some m.fail else none)
  else none
def lower (m : MS) (lsn : Int) : Option MS := if m.durable ≤ min m.limit lsn then some { m with limit := min m.limit lsn } else none
def append (m : MS) (c : CM) (r : RM) : Option MS :=
  if r.err = 0 then (if c.kind = 2 ∨ r.lsn < m.limit then m.add r.lsn c.data else none)
  else if r.err = 40 then (if r.lsn = 0 then some m.fail else (m.add r.lsn c.data).bind fun k => k.lower r.lsn)
  else if r.err = 3 ∨ r.err = 44 ∨ r.err = 9 then
    (if m.sane then (if r.lsn = 0 ∧ (r.err ≠ 44 ∨ m.next = top) then some m else none) else none)
  else none
def sync (m : MS) (r : RM) : Option MS :=
  if r.lsn ≠ 0 then none
  else if r.err = 0 then (if m.sane ∧ m.next ≤ m.limit then some m else none)
  else if r.err = 40 then some m.fail
  else none
def close (m : MS) (r : RM) : Option MS := (m.sync r).map shut
def truncate (m : MS) (c : CM) (r : RM) : Option MS :=
  if r.err = 40 then
    (if r.lsn ≠ 0 then (if r.lsn = c.lsn ∧ m.first < c.lsn then (m.front c.lsn).map fail else none) else some m.fail)
  else if ¬ m.sane then none
  else if r.lsn ≠ 0 then none
  else if r.err = 0 then (if m.first < c.lsn then m.front c.lsn else some m)
  else if r.err = 8 then (if m.durable < c.lsn ∧ m.first < c.lsn then some m else none)
  else if r.err = 9 then some m
  else none
def reads (c : CM) : Prop := c.kind = 4 ∨ c.kind = 5
instance (c : CM) : Decidable (reads c) := by unfold reads; infer_instance
def answer (m : MS) (c : CM) (r : RM) : Option MS :=
  if r.data = [] ∨ (reads c ∧ r.err = 0) then
    if reads c then m.read c r
    else if c.kind = 1 ∨ c.kind = 2 then m.append c r
    else if c.kind = 6 then m.truncate c r
    else if c.kind = 3 then m.sync r
    else m.close r
  else none
def apply1 (m : MS) (c : CM) (r : RM) : Option MS :=
  if r.err = 41 then (if m.closed = true ∧ r.lsn = 0 ∧ r.data = [] then some m else none)
  else if m.closed = true then none
  else m.answer c r
def half1 (m : MS) (c : CM) : Option MS :=
  if c.kind = 1 ∨ c.kind = 2 then m.add m.next c.data
  else if c.kind = 6 then (if m.closed = true then none else m.truncate c ⟨0, 0, []⟩)
  else if c.kind = 7 then (if m.closed = true then none else some m.shut)
  else none
def used (c : CM) : Prop :=
  if c.kind = 1 ∨ c.kind = 2 then c.lsn = 0
  else if c.kind = 3 ∨ c.kind = 7 then c.lsn = 0 ∧ c.data = []
  else if c.kind = 4 ∨ c.kind = 5 ∨ c.kind = 6 then c.data = []
  else False
instance (c : CM) : Decidable (used c) := by unfold used; infer_instance
def apply (m : MS) (c : CM) (r : RM) : Option MS := if used c then m.apply1 c r else none
def half (m : MS) (c : CM) : Option MS := if used c then m.half1 c else none
def new (base : Int) : MS := ⟨base, base, base, base, top, [], false, false⟩
def zero : MS := ⟨0, 0, 0, 0, 0, [], false, false⟩

/-- What is so of each state that comes of New. -/
structure Inv (m : MS) : Prop where
  base : 1 ≤ m.base
  first : m.base ≤ m.first
  dur : m.first ≤ m.durable
  next : m.durable ≤ m.next
  lim : m.durable ≤ m.limit
  top1 : m.next ≤ top
  top2 : m.limit ≤ top
  num : (m.recs.length : Int) = m.next - m.base
  few : m.recs.length ≤ 1000
  small : ∀ l ∈ m.recs, l.length ≤ 4096
end MS
end Go.Proofs.Ytemllidcnamlmaa
