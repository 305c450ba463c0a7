/- Calls of the wal, told as functions. -/
import Derived.Test.YtiedaccgagnofaaGreatKt
import Derived.Test.YtiedaccgagnofaaGreatRp
namespace Go.Proofs.YtiedaccgagnofaaGreat
open Go.RowKit
set_option maxRecDepth 1000000

/-- (*sync.Mutex).Lock -/
noncomputable def R37 (call : LCall) (_dcall : LDCall) (_round : LRound) (x0 : Value) (H : LH) : Option (Value × LH) :=
 ko (lnilCheck CT x0) fun v0 =>
 ko (lfieldAddr CT.toTab 64 v0 1) fun v1 =>
 ko2 (call 61 [v1] H) fun _ H3 =>
 some (.tuple #[], H3)
theorem K37 (call : LCall) (dcall : LDCall) (round : LRound) (x0 : Value) (H : LH) : R37 call dcall round x0 H = kcall1 CT call dcall round 37 [x0] H := by kernel_rfl
theorem L37 {n : Nat} {x0 : Value} {H : LH} {r : Value × LH} (h : R37 (lcall CT n) (ldcall CT n) (lround CT n) x0 H = some r) : lcall CT (n + 1) 37 [x0] H = some r := lcall_k CT_tab (by rw [← K37]; exact h)

/-- (*sync.Mutex).Unlock -/
noncomputable def R38 (call : LCall) (_dcall : LDCall) (_round : LRound) (x0 : Value) (H : LH) : Option (Value × LH) :=
 ko (lnilCheck CT x0) fun v0 =>
 ko (lfieldAddr CT.toTab 64 v0 1) fun v1 =>
 ko2 (call 62 [v1] H) fun _ H3 =>
 some (.tuple #[], H3)
theorem K38 (call : LCall) (dcall : LDCall) (round : LRound) (x0 : Value) (H : LH) : R38 call dcall round x0 H = kcall1 CT call dcall round 38 [x0] H := by kernel_rfl
theorem L38 {n : Nat} {x0 : Value} {H : LH} {r : Value × LH} (h : R38 (lcall CT n) (ldcall CT n) (lround CT n) x0 H = some r) : lcall CT (n + 1) 38 [x0] H = some r := lcall_k CT_tab (by rw [← K38]; exact h)

/-- (*sync.Mutex).Unlock, deferred -/
noncomputable def RD38 (call : LCall) (_round : LRound) (x0 : Value) (H : LH) : Option (Value × LH) :=
 ko (lnilCheck CT x0) fun v0 =>
 ko (lfieldAddr CT.toTab 64 v0 1) fun v1 =>
 ko2 (call 62 [v1] H) fun _ H3 =>
 some (.tuple #[], H3)
theorem KD38 (call : LCall) (round : LRound) (x0 : Value) (H : LH) : RD38 call round x0 H = kdcall1 CT call round 38 [x0] H := by kernel_rfl
theorem LD38 {n : Nat} {x0 : Value} {H : LH} {r : Value × LH} (h : RD38 (lcall CT n) (lround CT n) x0 H = some r) : ldcall CT (n + 1) 38 [x0] H = some r.2 := ldcall_k CT_tab (by rw [← KD38]; exact h)

/-- (*flume/wal.Log).there -/
noncomputable def R43 (_call : LCall) (_dcall : LDCall) (_round : LRound) (x0 : Value) (H : LH) : Option (Value × LH) :=
 ko (kbin CT .neq 25 (.tmp 3) (.const (.pointer none)) x0 (.pointer none)) fun v0 =>
 kcond v0
 (ko (lnilCheck CT x0) fun v1 =>
 ko (lfieldAddr CT.toTab 67 v1 1) fun v2 =>
 ko (lload CT.toTab H 65 v2) fun v3 =>
 ko (kbin CT .neq 65 (.tmp 9) (.const (.pointer none)) v3 (.pointer none)) fun v4 =>
 some (v4, H))
 (some ((.bool false), H))
theorem K43 (call : LCall) (dcall : LDCall) (round : LRound) (x0 : Value) (H : LH) : R43 call dcall round x0 H = kcall1 CT call dcall round 43 [x0] H := by kernel_rfl
theorem L43 {n : Nat} {x0 : Value} {H : LH} {r : Value × LH} (h : R43 (lcall CT n) (ldcall CT n) (lround CT n) x0 H = some r) : lcall CT (n + 1) 43 [x0] H = some r := lcall_k CT_tab (by rw [← K43]; exact h)

/-- flume/wal.number -/
noncomputable def R35 (_call : LCall) (_dcall : LDCall) (_round : LRound) (x0 : Value) (H : LH) : Option (Value × LH) :=
 ko2 (lnew H 70 x0) fun v0 H1 =>
 ko (lfieldAddr CT.toTab 70 v0 0) fun v2 =>
 ko (lload CT.toTab H1 28 v2) fun v3 =>
 ko (kbin CT .neq 28 (.tmp 5) (.const (.int .i64 0)) v3 (.int .i64 0)) fun v4 =>
 kcond v4
 (ko (lfieldAddr CT.toTab 70 v0 0) fun v5 =>
 ko (lload CT.toTab (LH.gap H1 4) 28 v5) fun v6 =>
 some (.tuple #[(.int .i64 0), v6], (LH.gap H1 4)))
 (ko (lfieldAddr CT.toTab 70 v0 1) fun v7 =>
 ko (lload CT.toTab H1 2 v7) fun v8 =>
 some (.tuple #[v8, (.int .i64 0)], H1))
theorem K35 (call : LCall) (dcall : LDCall) (round : LRound) (x0 : Value) (H : LH) : R35 call dcall round x0 H = kcall1 CT call dcall round 35 [x0] H := by kernel_rfl
theorem L35 {n : Nat} {x0 : Value} {H : LH} {r : Value × LH} (h : R35 (lcall CT n) (ldcall CT n) (lround CT n) x0 H = some r) : lcall CT (n + 1) 35 [x0] H = some r := lcall_k CT_tab (by rw [← K35]; exact h)

/-- flume/wal.record -/
noncomputable def R63 (_call : LCall) (_dcall : LDCall) (_round : LRound) (x0 : Value) (H : LH) : Option (Value × LH) :=
 ko2 (lnew H 70 x0) fun v0 H1 =>
 ko2 (lalloc CT.toTab H1 48) fun v2 H3 =>
 ko (lfieldAddr CT.toTab 70 v0 0) fun v4 =>
 ko (lload CT.toTab H3 28 v4) fun v5 =>
 ko (kbin CT .neq 28 (.tmp 5) (.const (.int .i64 0)) v5 (.int .i64 0)) fun v6 =>
 kcond v6
 (ko (lbuild CT.toTab 48 []) fun v7 =>
 ko (lfieldAddr CT.toTab 70 v0 0) fun v8 =>
 ko (lload CT.toTab (LH.gap H3 5) 28 v8) fun v9 =>
 ko (lstore CT.toTab (LH.gap H3 5) 48 v2 v7) fun H10 =>
 ko (lfieldAddr CT.toTab 70 v0 0) fun v11 =>
 ktest (veq 20 v11 v8) <|
 ko (lload CT.toTab H10 28 v8) fun v12 =>
 ktest (veq 20 v12 v9) <|
 ko (lload CT.toTab H10 48 v2) fun v13 =>
 some (.tuple #[v13, v9], H10))
 (ko (lfieldAddr CT.toTab 70 v0 1) fun v14 =>
 ko (lload CT.toTab H3 2 v14) fun v15 =>
 ko (lfieldAddr CT.toTab 70 v0 2) fun v16 =>
 ko (lload CT.toTab H3 46 v16) fun v17 =>
 ko (lbuild CT.toTab 48 [(0, v15), (1, v17)]) fun v18 =>
 ko (lstore CT.toTab H3 48 v2 v18) fun H19 =>
 ko (lload CT.toTab H19 48 v2) fun v20 =>
 some (.tuple #[v20, (.int .i64 0)], H19))
theorem K63 (call : LCall) (dcall : LDCall) (round : LRound) (x0 : Value) (H : LH) : R63 call dcall round x0 H = kcall1 CT call dcall round 63 [x0] H := by kernel_rfl
theorem L63 {n : Nat} {x0 : Value} {H : LH} {r : Value × LH} (h : R63 (lcall CT n) (ldcall CT n) (lround CT n) x0 H = some r) : lcall CT (n + 1) 63 [x0] H = some r := lcall_k CT_tab (by rw [← K63]; exact h)

/-- (*flume/wal.Log).call -/
noncomputable def R36 (call : LCall) (dcall : LDCall) (_round : LRound) (x0 x1 : Value) (H : LH) : Option (Value × LH) :=
 ko2 (lnew H 57 x1) fun v0 H1 =>
 ko2 (lalloc CT.toTab H1 70) fun v2 H3 =>
 ko2 (call 43 [x0] H3) fun v4 H5 =>
 ko (kun CT .not v4) fun v6 =>
 kcond v6
 (ko (lbuild CT.toTab 70 [(0, (.int .i64 41))]) fun v7 =>
 ko (lstore CT.toTab H5 70 v2 v7) fun H8 =>
 ko (lload CT.toTab H8 70 v2) fun v9 =>
 some (v9, H8))
 (ko (lnilCheck CT x0) fun v10 =>
 ko (lfieldAddr CT.toTab 67 v10 0) fun v11 =>
 ko2 (call 37 [v11] H5) fun _ H13 =>
 ko (lnilCheck CT x0) fun v14 =>
 ko (lfieldAddr CT.toTab 67 v14 0) fun v15 =>
 ko (lload CT.toTab H13 57 v0) fun v16 =>
 ko2 (call 60 [x0, v16] H13) fun v17 H18 =>
 ko (lstore CT.toTab H18 70 v2 v17) fun H19 =>
 kdefer1 CT dcall ⟨.fn (.func 38) #[], #[v15]⟩ H19 fun H20 =>
 ko (lload CT.toTab H20 70 v2) fun v21 =>
 some (v21, H20))
theorem K36 (call : LCall) (dcall : LDCall) (round : LRound) (x0 x1 : Value) (H : LH) : R36 call dcall round x0 x1 H = kcall1 CT call dcall round 36 [x0, x1] H := by kernel_rfl
theorem L36 {n : Nat} {x0 x1 : Value} {H : LH} {r : Value × LH} (h : R36 (lcall CT n) (ldcall CT n) (lround CT n) x0 x1 H = some r) : lcall CT (n + 1) 36 [x0, x1] H = some r := lcall_k CT_tab (by rw [← K36]; exact h)

/-- (*flume/wal.Log).Append -/
noncomputable def R33 (call : LCall) (_dcall : LDCall) (_round : LRound) (x0 x1 : Value) (H : LH) : Option (Value × LH) :=
 ko (lbuild CT.toTab 57 [(0, (.int .i64 1)), (2, x1)]) fun v0 =>
 ko2 (call 36 [x0, v0] H) fun v1 H2 =>
 ko2 (call 35 [v1] H2) fun v3 H4 =>
 ko (lextract v3 0) fun v5 =>
 ko (lextract v3 1) fun v6 =>
 some (.tuple #[v5, v6], H4)
theorem K33 (call : LCall) (dcall : LDCall) (round : LRound) (x0 x1 : Value) (H : LH) : R33 call dcall round x0 x1 H = kcall1 CT call dcall round 33 [x0, x1] H := by kernel_rfl
theorem L33 {n : Nat} {x0 x1 : Value} {H : LH} {r : Value × LH} (h : R33 (lcall CT n) (ldcall CT n) (lround CT n) x0 x1 H = some r) : lcall CT (n + 1) 33 [x0, x1] H = some r := lcall_k CT_tab (by rw [← K33]; exact h)

/-- (*flume/wal.Log).AppendAsync -/
noncomputable def R13 (call : LCall) (_dcall : LDCall) (_round : LRound) (x0 x1 : Value) (H : LH) : Option (Value × LH) :=
 ko (lbuild CT.toTab 57 [(0, (.int .i64 2)), (2, x1)]) fun v0 =>
 ko2 (call 36 [x0, v0] H) fun v1 H2 =>
 ko2 (call 35 [v1] H2) fun v3 H4 =>
 ko (lextract v3 0) fun v5 =>
 ko (lextract v3 1) fun v6 =>
 some (.tuple #[v5, v6], H4)
theorem K13 (call : LCall) (dcall : LDCall) (round : LRound) (x0 x1 : Value) (H : LH) : R13 call dcall round x0 x1 H = kcall1 CT call dcall round 13 [x0, x1] H := by kernel_rfl
theorem L13 {n : Nat} {x0 x1 : Value} {H : LH} {r : Value × LH} (h : R13 (lcall CT n) (ldcall CT n) (lround CT n) x0 x1 H = some r) : lcall CT (n + 1) 13 [x0, x1] H = some r := lcall_k CT_tab (by rw [← K13]; exact h)

/-- (*flume/wal.Log).Sync -/
noncomputable def R17 (call : LCall) (_dcall : LDCall) (_round : LRound) (x0 : Value) (H : LH) : Option (Value × LH) :=
 ko (lbuild CT.toTab 57 [(0, (.int .i64 3))]) fun v0 =>
 ko2 (call 36 [x0, v0] H) fun v1 H2 =>
 ko (lfield CT.toTab 70 v1 0) fun v3 =>
 some (v3, H2)
theorem K17 (call : LCall) (dcall : LDCall) (round : LRound) (x0 : Value) (H : LH) : R17 call dcall round x0 H = kcall1 CT call dcall round 17 [x0] H := by kernel_rfl
theorem L17 {n : Nat} {x0 : Value} {H : LH} {r : Value × LH} (h : R17 (lcall CT n) (ldcall CT n) (lround CT n) x0 H = some r) : lcall CT (n + 1) 17 [x0] H = some r := lcall_k CT_tab (by rw [← K17]; exact h)

/-- (*flume/wal.Log).Read -/
noncomputable def R41 (call : LCall) (_dcall : LDCall) (_round : LRound) (x0 x1 : Value) (H : LH) : Option (Value × LH) :=
 ko2 (lalloc CT.toTab H 48) fun v0 H1 =>
 ko (lbuild CT.toTab 57 [(0, (.int .i64 4)), (1, x1)]) fun v2 =>
 ko2 (call 36 [x0, v2] H1) fun v3 H4 =>
 ko2 (call 63 [v3] H4) fun v5 H6 =>
 ko (lextract v5 0) fun v7 =>
 ko (lextract v5 1) fun v8 =>
 ko (lstore CT.toTab H6 48 v0 v7) fun H9 =>
 ko (lload CT.toTab H9 48 v0) fun v10 =>
 some (.tuple #[v10, v8], H9)
theorem K41 (call : LCall) (dcall : LDCall) (round : LRound) (x0 x1 : Value) (H : LH) : R41 call dcall round x0 x1 H = kcall1 CT call dcall round 41 [x0, x1] H := by kernel_rfl
theorem L41 {n : Nat} {x0 x1 : Value} {H : LH} {r : Value × LH} (h : R41 (lcall CT n) (ldcall CT n) (lround CT n) x0 x1 H = some r) : lcall CT (n + 1) 41 [x0, x1] H = some r := lcall_k CT_tab (by rw [← K41]; exact h)

/-- (*flume/wal.Log).TruncateFront -/
noncomputable def R18 (call : LCall) (_dcall : LDCall) (_round : LRound) (x0 x1 : Value) (H : LH) : Option (Value × LH) :=
 ko (lbuild CT.toTab 57 [(0, (.int .i64 6)), (1, x1)]) fun v0 =>
 ko2 (call 36 [x0, v0] H) fun v1 H2 =>
 ko (lfield CT.toTab 70 v1 0) fun v3 =>
 some (v3, H2)
theorem K18 (call : LCall) (dcall : LDCall) (round : LRound) (x0 x1 : Value) (H : LH) : R18 call dcall round x0 x1 H = kcall1 CT call dcall round 18 [x0, x1] H := by kernel_rfl
theorem L18 {n : Nat} {x0 x1 : Value} {H : LH} {r : Value × LH} (h : R18 (lcall CT n) (ldcall CT n) (lround CT n) x0 x1 H = some r) : lcall CT (n + 1) 18 [x0, x1] H = some r := lcall_k CT_tab (by rw [← K18]; exact h)

/-- (*flume/wal.Log).Close -/
noncomputable def R28 (call : LCall) (_dcall : LDCall) (_round : LRound) (x0 : Value) (H : LH) : Option (Value × LH) :=
 ko (lbuild CT.toTab 57 [(0, (.int .i64 7))]) fun v0 =>
 ko2 (call 36 [x0, v0] H) fun v1 H2 =>
 ko (lfield CT.toTab 70 v1 0) fun v3 =>
 some (v3, H2)
theorem K28 (call : LCall) (dcall : LDCall) (round : LRound) (x0 : Value) (H : LH) : R28 call dcall round x0 H = kcall1 CT call dcall round 28 [x0] H := by kernel_rfl
theorem L28 {n : Nat} {x0 : Value} {H : LH} {r : Value × LH} (h : R28 (lcall CT n) (ldcall CT n) (lround CT n) x0 H = some r) : lcall CT (n + 1) 28 [x0] H = some r := lcall_k CT_tab (by rw [← K28]; exact h)

/-- (*flume/wal.Log).Look -/
noncomputable def R22 (call : LCall) (dcall : LDCall) (_round : LRound) (x0 : Value) (H : LH) : Option (Value × LH) :=
 ko2 (lalloc CT.toTab H 77) fun v0 H1 =>
 ko2 (call 43 [x0] H1) fun v2 H3 =>
 ko (kun CT .not v2) fun v4 =>
 kcond v4
 (ko (lbuild CT.toTab 77 []) fun v5 =>
 ko (lstore CT.toTab H3 77 v0 v5) fun H6 =>
 ko (lload CT.toTab H6 77 v0) fun v7 =>
 some (v7, H6))
 (ko (lnilCheck CT x0) fun v8 =>
 ko (lfieldAddr CT.toTab 67 v8 0) fun v9 =>
 ko2 (call 37 [v9] H3) fun _ H11 =>
 ko (lnilCheck CT x0) fun v12 =>
 ko (lfieldAddr CT.toTab 67 v12 0) fun v13 =>
 ko (lnilCheck CT x0) fun v14 =>
 ko (lfieldAddr CT.toTab 67 v14 1) fun v15 =>
 ko (lload CT.toTab H11 65 v15) fun v16 =>
 ko2 (call 44 [v16] H11) fun v17 H18 =>
 ko (lstore CT.toTab H18 77 v0 v17) fun H19 =>
 kdefer1 CT dcall ⟨.fn (.func 38) #[], #[v13]⟩ H19 fun H20 =>
 ko (lload CT.toTab H20 77 v0) fun v21 =>
 some (v21, H20))
theorem K22 (call : LCall) (dcall : LDCall) (round : LRound) (x0 : Value) (H : LH) : R22 call dcall round x0 H = kcall1 CT call dcall round 22 [x0] H := by kernel_rfl
theorem L22 {n : Nat} {x0 : Value} {H : LH} {r : Value × LH} (h : R22 (lcall CT n) (ldcall CT n) (lround CT n) x0 H = some r) : lcall CT (n + 1) 22 [x0] H = some r := lcall_k CT_tab (by rw [← K22]; exact h)

/-- (*flume/wal.Log).tell -/
noncomputable def R39 (call : LCall) (dcall : LDCall) (_round : LRound) (x0 x1 : Value) (H : LH) : Option (Value × LH) :=
 ko2 (lalloc CT.toTab H 48) fun v0 H1 =>
 ko2 (call 43 [x0] H1) fun v2 H3 =>
 ko (kun CT .not v2) fun v4 =>
 kcond v4
 (ko (lbuild CT.toTab 48 []) fun v5 =>
 ko (lstore CT.toTab H3 48 v0 v5) fun H6 =>
 ko (lload CT.toTab H6 48 v0) fun v7 =>
 some (.tuple #[v7, (.int .i64 41)], H6))
 (ko (lnilCheck CT x0) fun v8 =>
 ko (lfieldAddr CT.toTab 67 v8 0) fun v9 =>
 ko2 (call 37 [v9] H3) fun _ H11 =>
 ko (lnilCheck CT x0) fun v12 =>
 ko (lfieldAddr CT.toTab 67 v12 0) fun v13 =>
 ko (lnilCheck CT x0) fun v14 =>
 ko (lfieldAddr CT.toTab 67 v14 1) fun v15 =>
 ko (lload CT.toTab H11 65 v15) fun v16 =>
 ko2 (call 44 [v16] H11) fun v17 H18 =>
 ko2 (lalloc CT.toTab H18 77) fun v19 H20 =>
 ko (lstore CT.toTab H20 77 v19 v17) fun H21 =>
 ko (lfieldAddr CT.toTab 77 v19 2) fun v22 =>
 ko (lload CT.toTab H21 2 v22) fun v23 =>
 ko (kbin CT .geq 2 (.tmp 23) (.tmp 25) x1 v23) fun v24 =>
 kcond v24
 (ko (lfieldAddr CT.toTab 77 v19 9) fun v25 =>
 ko (lload CT.toTab H21 4 v25) fun v26 =>
 ko (kun CT .not v26) fun v27 =>
 kcond v27
 (ko (lfieldAddr CT.toTab 77 v19 11) fun v28 =>
 ko (lload CT.toTab H21 4 v28) fun v29 =>
 ko (kun CT .not v29) fun v30 =>
 kcond v30
 (ko (lbuild CT.toTab 48 []) fun v31 =>
 ko (lstore CT.toTab H21 48 v0 v31) fun H32 =>
 kdefer1 CT dcall ⟨.fn (.func 38) #[], #[v13]⟩ H32 fun H33 =>
 ko (lload CT.toTab H33 48 v0) fun v34 =>
 some (.tuple #[v34, (.int .i64 42)], H33))
 (ko (lbuild CT.toTab 57 [(0, (.int .i64 5)), (1, x1)]) fun v35 =>
 ko2 (call 60 [x0, v35] H21) fun v36 H37 =>
 ko2 (call 63 [v36] H37) fun v38 H39 =>
 ko (lextract v38 0) fun v40 =>
 ko (lextract v38 1) fun v41 =>
 ko (lstore CT.toTab H39 48 v0 v40) fun H42 =>
 kdefer1 CT dcall ⟨.fn (.func 38) #[], #[v13]⟩ H42 fun H43 =>
 ko (lload CT.toTab H43 48 v0) fun v44 =>
 some (.tuple #[v44, v41], H43)))
 (ko (lbuild CT.toTab 57 [(0, (.int .i64 5)), (1, x1)]) fun v45 =>
 ko2 (call 60 [x0, v45] H21) fun v46 H47 =>
 ko2 (call 63 [v46] H47) fun v48 H49 =>
 ko (lextract v48 0) fun v50 =>
 ko (lextract v48 1) fun v51 =>
 ko (lstore CT.toTab H49 48 v0 v50) fun H52 =>
 kdefer1 CT dcall ⟨.fn (.func 38) #[], #[v13]⟩ H52 fun H53 =>
 ko (lload CT.toTab H53 48 v0) fun v54 =>
 some (.tuple #[v54, v51], H53)))
 (ko (lbuild CT.toTab 57 [(0, (.int .i64 5)), (1, x1)]) fun v55 =>
 ko2 (call 60 [x0, v55] H21) fun v56 H57 =>
 ko2 (call 63 [v56] H57) fun v58 H59 =>
 ko (lextract v58 0) fun v60 =>
 ko (lextract v58 1) fun v61 =>
 ko (lstore CT.toTab H59 48 v0 v60) fun H62 =>
 kdefer1 CT dcall ⟨.fn (.func 38) #[], #[v13]⟩ H62 fun H63 =>
 ko (lload CT.toTab H63 48 v0) fun v64 =>
 some (.tuple #[v64, v61], H63)))
theorem K39 (call : LCall) (dcall : LDCall) (round : LRound) (x0 x1 : Value) (H : LH) : R39 call dcall round x0 x1 H = kcall1 CT call dcall round 39 [x0, x1] H := by kernel_rfl
theorem L39 {n : Nat} {x0 x1 : Value} {H : LH} {r : Value × LH} (h : R39 (lcall CT n) (ldcall CT n) (lround CT n) x0 x1 H = some r) : lcall CT (n + 1) 39 [x0, x1] H = some r := lcall_k CT_tab (by rw [← K39]; exact h)

/-- (*flume/wal.Log).From -/
noncomputable def R12 (_call : LCall) (_dcall : LDCall) (_round : LRound) (x0 x1 : Value) (H : LH) : Option (Value × LH) :=
 ko (lbuild CT.toTab 112 [(1, x0), (2, x1)]) fun v0 =>
 ko2 (lnew H 112 v0) fun v1 H2 =>
 some (v1, H2)
theorem K12 (call : LCall) (dcall : LDCall) (round : LRound) (x0 x1 : Value) (H : LH) : R12 call dcall round x0 x1 H = kcall1 CT call dcall round 12 [x0, x1] H := by kernel_rfl
theorem L12 {n : Nat} {x0 x1 : Value} {H : LH} {r : Value × LH} (h : R12 (lcall CT n) (ldcall CT n) (lround CT n) x0 x1 H = some r) : lcall CT (n + 1) 12 [x0, x1] H = some r := lcall_k CT_tab (by rw [← K12]; exact h)

/-- (*flume/wal.Log).All -/
noncomputable def R21 (_call : LCall) (_dcall : LDCall) (_round : LRound) (x0 x1 : Value) (H : LH) : Option (Value × LH) :=
 ko2 (lnew H 25 x0) fun v0 H1 =>
 ko2 (lnew H1 2 x1) fun v2 H3 =>
 some ((.func (.func 42) #[] #[v2, v0]), H3)
theorem K21 (call : LCall) (dcall : LDCall) (round : LRound) (x0 x1 : Value) (H : LH) : R21 call dcall round x0 x1 H = kcall1 CT call dcall round 21 [x0, x1] H := by kernel_rfl
theorem L21 {n : Nat} {x0 x1 : Value} {H : LH} {r : Value × LH} (h : R21 (lcall CT n) (ldcall CT n) (lround CT n) x0 x1 H = some r) : lcall CT (n + 1) 21 [x0, x1] H = some r := lcall_k CT_tab (by rw [← K21]; exact h)

/-- (*flume/wal.Cursor).Next -/
noncomputable def R14 (call : LCall) (dcall : LDCall) (_round : LRound) (x0 : Value) (H : LH) : Option (Value × LH) :=
 ko2 (lalloc CT.toTab H 48) fun v0 H1 =>
 ko (kbin CT .eql 41 (.tmp 6) (.const (.pointer none)) x0 (.pointer none)) fun v2 =>
 kcond v2
 (ko (lbuild CT.toTab 48 []) fun v3 =>
 ko (lstore CT.toTab H1 48 v0 v3) fun H4 =>
 ko (lload CT.toTab H4 48 v0) fun v5 =>
 some (.tuple #[v5, (.int .i64 1)], H4))
 (ko (lnilCheck CT x0) fun v6 =>
 ko (lfieldAddr CT.toTab 112 v6 0) fun v7 =>
 ko2 (call 37 [v7] H1) fun _ H9 =>
 ko (lnilCheck CT x0) fun v10 =>
 ko (lfieldAddr CT.toTab 112 v10 0) fun v11 =>
 ko (lnilCheck CT x0) fun v12 =>
 ko (lfieldAddr CT.toTab 112 v12 1) fun v13 =>
 ko (lload CT.toTab (LH.gap H9 15) 25 v13) fun v14 =>
 ko (lnilCheck CT x0) fun v15 =>
 ko (lfieldAddr CT.toTab 112 v15 2) fun v16 =>
 ko (lload CT.toTab (LH.gap H9 15) 2 v16) fun v17 =>
 ko2 (call 39 [v14, v17] (LH.gap H9 15)) fun v18 H19 =>
 ko (lextract v18 0) fun v20 =>
 ko (lextract v18 1) fun v21 =>
 ko (lstore CT.toTab (LH.put H19 (LH.next H9 + 12) (some (.cells [(.int .i64 0), (.slice none 0 0)] 48 1))) 48 (.pointer (some ⟨LH.next H9 + 12, 0, none⟩)) v20) fun H22 =>
 ko (lextract v18 1) fun v23 =>
 ktest (veq 20 v23 v21) <|
 ko (kbin CT .eql 28 (.tmp 28) (.const (.int .i64 0)) v21 (.int .i64 0)) fun v24 =>
 kcond v24
 (ko (lnilCheck CT x0) fun v25 =>
 ko (lfieldAddr CT.toTab 112 v25 2) fun v26 =>
 ko (lload CT.toTab H22 2 v26) fun v27 =>
 ko (kbin CT .add 2 (.tmp 33) (.const (.int .i64 1)) v27 (.int .i64 1)) fun v28 =>
 ko (lnilCheck CT x0) fun v29 =>
 ko (lfieldAddr CT.toTab 112 v29 2) fun v30 =>
 ko (lstore CT.toTab H22 2 v30 v28) fun H31 =>
 ko (lload CT.toTab H31 48 (.pointer (some ⟨LH.next H9 + 12, 0, none⟩))) fun v32 =>
 ko (lstore CT.toTab H31 48 v0 v32) fun H33 =>
 kdefer1 CT dcall ⟨.fn (.func 38) #[], #[v11]⟩ H33 fun H34 =>
 ko (lload CT.toTab H34 48 v0) fun v35 =>
 some (.tuple #[v35, v21], H34))
 (ko (lload CT.toTab H22 48 (.pointer (some ⟨LH.next H9 + 12, 0, none⟩))) fun v36 =>
 ko (lstore CT.toTab H22 48 v0 v36) fun H37 =>
 kdefer1 CT dcall ⟨.fn (.func 38) #[], #[v11]⟩ H37 fun H38 =>
 ko (lload CT.toTab H38 48 v0) fun v39 =>
 some (.tuple #[v39, v21], H38)))
theorem K14 (call : LCall) (dcall : LDCall) (round : LRound) (x0 : Value) (H : LH) : R14 call dcall round x0 H = kcall1 CT call dcall round 14 [x0] H := by kernel_rfl
theorem L14 {n : Nat} {x0 : Value} {H : LH} {r : Value × LH} (h : R14 (lcall CT n) (ldcall CT n) (lround CT n) x0 H = some r) : lcall CT (n + 1) 14 [x0] H = some r := lcall_k CT_tab (by rw [← K14]; exact h)

/-- (*flume/wal.Cursor).At -/
noncomputable def R15 (call : LCall) (dcall : LDCall) (_round : LRound) (x0 : Value) (H : LH) : Option (Value × LH) :=
 ko (kbin CT .eql 41 (.tmp 3) (.const (.pointer none)) x0 (.pointer none)) fun v0 =>
 kcond v0
 (some ((.int .i64 0), H))
 (ko (lnilCheck CT x0) fun v1 =>
 ko (lfieldAddr CT.toTab 112 v1 0) fun v2 =>
 ko2 (call 37 [v2] H) fun _ H4 =>
 ko (lnilCheck CT x0) fun v5 =>
 ko (lfieldAddr CT.toTab 112 v5 0) fun v6 =>
 ko (lnilCheck CT x0) fun v7 =>
 ko (lfieldAddr CT.toTab 112 v7 2) fun v8 =>
 ko (lload CT.toTab H4 2 v8) fun v9 =>
 kdefer1 CT dcall ⟨.fn (.func 38) #[], #[v6]⟩ H4 fun H10 =>
 some (v9, H10))
theorem K15 (call : LCall) (dcall : LDCall) (round : LRound) (x0 : Value) (H : LH) : R15 call dcall round x0 H = kcall1 CT call dcall round 15 [x0] H := by kernel_rfl
theorem L15 {n : Nat} {x0 : Value} {H : LH} {r : Value × LH} (h : R15 (lcall CT n) (ldcall CT n) (lround CT n) x0 H = some r) : lcall CT (n + 1) 15 [x0] H = some r := lcall_k CT_tab (by rw [← K15]; exact h)

/-- (*flume/wal.Cursor).Stand -/
noncomputable def R23 (call : LCall) (dcall : LDCall) (_round : LRound) (x0 x1 : Value) (H : LH) : Option (Value × LH) :=
 ko (kbin CT .eql 41 (.tmp 4) (.const (.pointer none)) x0 (.pointer none)) fun v0 =>
 kcond v0
 (some (.tuple #[], H))
 (ko (lnilCheck CT x0) fun v1 =>
 ko (lfieldAddr CT.toTab 112 v1 0) fun v2 =>
 ko2 (call 37 [v2] H) fun _ H4 =>
 ko (lnilCheck CT x0) fun v5 =>
 ko (lfieldAddr CT.toTab 112 v5 0) fun v6 =>
 ko (lnilCheck CT x0) fun v7 =>
 ko (lfieldAddr CT.toTab 112 v7 2) fun v8 =>
 ko (lstore CT.toTab H4 2 v8 x1) fun H9 =>
 kdefer1 CT dcall ⟨.fn (.func 38) #[], #[v6]⟩ H9 fun H10 =>
 some (.tuple #[], H10))
theorem K23 (call : LCall) (dcall : LDCall) (round : LRound) (x0 x1 : Value) (H : LH) : R23 call dcall round x0 x1 H = kcall1 CT call dcall round 23 [x0, x1] H := by kernel_rfl
theorem L23 {n : Nat} {x0 x1 : Value} {H : LH} {r : Value × LH} (h : R23 (lcall CT n) (ldcall CT n) (lround CT n) x0 x1 H = some r) : lcall CT (n + 1) 23 [x0, x1] H = some r := lcall_k CT_tab (by rw [← K23]; exact h)

/-- flume/flumelaw22.Of -/
noncomputable def R20 (_call : LCall) (_dcall : LDCall) (_round : LRound) (x0 : Value) (H : LH) : Option (Value × LH) :=
 ko2 (lnew H 57 x0) fun v0 H1 =>
 ko2 (lalloc CT.toTab H1 57) fun v2 H3 =>
 ko (lfieldAddr CT.toTab 57 v0 0) fun v4 =>
 ko (lload CT.toTab H3 3 v4) fun v5 =>
 ko (kbin CT .lss 3 (.tmp 4) (.const (.int .i64 1)) v5 (.int .i64 1)) fun v6 =>
 kcond v6
 (ko (lfieldAddr CT.toTab 57 v0 0) fun v7 =>
 ko (lstore CT.toTab H3 3 v7 (.int .i64 3)) fun H8 =>
 ko (lfieldAddr CT.toTab 57 v0 0) fun v9 =>
 ko (lload CT.toTab H8 3 v9) fun v10 =>
 ko (kbin CT .neq 3 (.tmp 18) (.const (.int .i64 1)) v10 (.int .i64 1)) fun v11 =>
 kcond v11
 (ko (lfieldAddr CT.toTab 57 v0 0) fun v12 =>
 ko (lload CT.toTab H8 3 v12) fun v13 =>
 ko (kbin CT .neq 3 (.tmp 22) (.const (.int .i64 2)) v13 (.int .i64 2)) fun v14 =>
 kcond v14
 (ko (lfieldAddr CT.toTab 57 v0 2) fun v15 =>
 ko (lstore CT.toTab H8 46 v15 (.slice none 0 0)) fun H16 =>
 ko (lfieldAddr CT.toTab 57 v0 0) fun v17 =>
 ko (lload CT.toTab H16 3 v17) fun v18 =>
 ko (kbin CT .neq 3 (.tmp 27) (.const (.int .i64 4)) v18 (.int .i64 4)) fun v19 =>
 kcond v19
 (ko (lfieldAddr CT.toTab 57 v0 0) fun v20 =>
 ko (lload CT.toTab H16 3 v20) fun v21 =>
 ko (kbin CT .neq 3 (.tmp 31) (.const (.int .i64 6)) v21 (.int .i64 6)) fun v22 =>
 kcond v22
 (ko (lfieldAddr CT.toTab 57 v0 1) fun v23 =>
 ko (lstore CT.toTab H16 2 v23 (.int .i64 0)) fun H24 =>
 ko (lload CT.toTab H24 57 v0) fun v25 =>
 ko (lstore CT.toTab H24 57 v2 v25) fun H26 =>
 ko (lload CT.toTab H26 57 v2) fun v27 =>
 some (v27, H26))
 (ko (lload CT.toTab H16 57 v0) fun v28 =>
 ko (lstore CT.toTab H16 57 v2 v28) fun H29 =>
 ko (lload CT.toTab H29 57 v2) fun v30 =>
 some (v30, H29)))
 (ko (lload CT.toTab H16 57 v0) fun v31 =>
 ko (lstore CT.toTab H16 57 v2 v31) fun H32 =>
 ko (lload CT.toTab H32 57 v2) fun v33 =>
 some (v33, H32)))
 (ko (lfieldAddr CT.toTab 57 v0 0) fun v34 =>
 ko (lload CT.toTab H8 3 v34) fun v35 =>
 ko (kbin CT .neq 3 (.tmp 27) (.const (.int .i64 4)) v35 (.int .i64 4)) fun v36 =>
 kcond v36
 (ko (lfieldAddr CT.toTab 57 v0 0) fun v37 =>
 ko (lload CT.toTab H8 3 v37) fun v38 =>
 ko (kbin CT .neq 3 (.tmp 31) (.const (.int .i64 6)) v38 (.int .i64 6)) fun v39 =>
 kcond v39
 (ko (lfieldAddr CT.toTab 57 v0 1) fun v40 =>
 ko (lstore CT.toTab H8 2 v40 (.int .i64 0)) fun H41 =>
 ko (lload CT.toTab H41 57 v0) fun v42 =>
 ko (lstore CT.toTab H41 57 v2 v42) fun H43 =>
 ko (lload CT.toTab H43 57 v2) fun v44 =>
 some (v44, H43))
 (ko (lload CT.toTab H8 57 v0) fun v45 =>
 ko (lstore CT.toTab H8 57 v2 v45) fun H46 =>
 ko (lload CT.toTab H46 57 v2) fun v47 =>
 some (v47, H46)))
 (ko (lload CT.toTab H8 57 v0) fun v48 =>
 ko (lstore CT.toTab H8 57 v2 v48) fun H49 =>
 ko (lload CT.toTab H49 57 v2) fun v50 =>
 some (v50, H49))))
 (ko (lfieldAddr CT.toTab 57 v0 0) fun v51 =>
 ko (lload CT.toTab H8 3 v51) fun v52 =>
 ko (kbin CT .neq 3 (.tmp 27) (.const (.int .i64 4)) v52 (.int .i64 4)) fun v53 =>
 kcond v53
 (ko (lfieldAddr CT.toTab 57 v0 0) fun v54 =>
 ko (lload CT.toTab H8 3 v54) fun v55 =>
 ko (kbin CT .neq 3 (.tmp 31) (.const (.int .i64 6)) v55 (.int .i64 6)) fun v56 =>
 kcond v56
 (ko (lfieldAddr CT.toTab 57 v0 1) fun v57 =>
 ko (lstore CT.toTab H8 2 v57 (.int .i64 0)) fun H58 =>
 ko (lload CT.toTab H58 57 v0) fun v59 =>
 ko (lstore CT.toTab H58 57 v2 v59) fun H60 =>
 ko (lload CT.toTab H60 57 v2) fun v61 =>
 some (v61, H60))
 (ko (lload CT.toTab H8 57 v0) fun v62 =>
 ko (lstore CT.toTab H8 57 v2 v62) fun H63 =>
 ko (lload CT.toTab H63 57 v2) fun v64 =>
 some (v64, H63)))
 (ko (lload CT.toTab H8 57 v0) fun v65 =>
 ko (lstore CT.toTab H8 57 v2 v65) fun H66 =>
 ko (lload CT.toTab H66 57 v2) fun v67 =>
 some (v67, H66))))
 (ko (lfieldAddr CT.toTab 57 v0 0) fun v68 =>
 ko (lload CT.toTab H3 3 v68) fun v69 =>
 ko (kbin CT .gtr 3 (.tmp 8) (.const (.int .i64 7)) v69 (.int .i64 7)) fun v70 =>
 kcond v70
 (ko (lfieldAddr CT.toTab 57 v0 0) fun v71 =>
 ko (lstore CT.toTab H3 3 v71 (.int .i64 3)) fun H72 =>
 ko (lfieldAddr CT.toTab 57 v0 0) fun v73 =>
 ko (lload CT.toTab H72 3 v73) fun v74 =>
 ko (kbin CT .neq 3 (.tmp 18) (.const (.int .i64 1)) v74 (.int .i64 1)) fun v75 =>
 kcond v75
 (ko (lfieldAddr CT.toTab 57 v0 0) fun v76 =>
 ko (lload CT.toTab H72 3 v76) fun v77 =>
 ko (kbin CT .neq 3 (.tmp 22) (.const (.int .i64 2)) v77 (.int .i64 2)) fun v78 =>
 kcond v78
 (ko (lfieldAddr CT.toTab 57 v0 2) fun v79 =>
 ko (lstore CT.toTab H72 46 v79 (.slice none 0 0)) fun H80 =>
 ko (lfieldAddr CT.toTab 57 v0 0) fun v81 =>
 ko (lload CT.toTab H80 3 v81) fun v82 =>
 ko (kbin CT .neq 3 (.tmp 27) (.const (.int .i64 4)) v82 (.int .i64 4)) fun v83 =>
 kcond v83
 (ko (lfieldAddr CT.toTab 57 v0 0) fun v84 =>
 ko (lload CT.toTab H80 3 v84) fun v85 =>
 ko (kbin CT .neq 3 (.tmp 31) (.const (.int .i64 6)) v85 (.int .i64 6)) fun v86 =>
 kcond v86
 (ko (lfieldAddr CT.toTab 57 v0 1) fun v87 =>
 ko (lstore CT.toTab H80 2 v87 (.int .i64 0)) fun H88 =>
 ko (lload CT.toTab H88 57 v0) fun v89 =>
 ko (lstore CT.toTab H88 57 v2 v89) fun H90 =>
 ko (lload CT.toTab H90 57 v2) fun v91 =>
 some (v91, H90))
 (ko (lload CT.toTab H80 57 v0) fun v92 =>
 ko (lstore CT.toTab H80 57 v2 v92) fun H93 =>
 ko (lload CT.toTab H93 57 v2) fun v94 =>
 some (v94, H93)))
 (ko (lload CT.toTab H80 57 v0) fun v95 =>
 ko (lstore CT.toTab H80 57 v2 v95) fun H96 =>
 ko (lload CT.toTab H96 57 v2) fun v97 =>
 some (v97, H96)))
 (ko (lfieldAddr CT.toTab 57 v0 0) fun v98 =>
 ko (lload CT.toTab H72 3 v98) fun v99 =>
 ko (kbin CT .neq 3 (.tmp 27) (.const (.int .i64 4)) v99 (.int .i64 4)) fun v100 =>
 kcond v100
 (ko (lfieldAddr CT.toTab 57 v0 0) fun v101 =>
 ko (lload CT.toTab H72 3 v101) fun v102 =>
 ko (kbin CT .neq 3 (.tmp 31) (.const (.int .i64 6)) v102 (.int .i64 6)) fun v103 =>
 kcond v103
 (ko (lfieldAddr CT.toTab 57 v0 1) fun v104 =>
 ko (lstore CT.toTab H72 2 v104 (.int .i64 0)) fun H105 =>
 ko (lload CT.toTab H105 57 v0) fun v106 =>
 ko (lstore CT.toTab H105 57 v2 v106) fun H107 =>
 ko (lload CT.toTab H107 57 v2) fun v108 =>
 some (v108, H107))
 (ko (lload CT.toTab H72 57 v0) fun v109 =>
 ko (lstore CT.toTab H72 57 v2 v109) fun H110 =>
 ko (lload CT.toTab H110 57 v2) fun v111 =>
 some (v111, H110)))
 (ko (lload CT.toTab H72 57 v0) fun v112 =>
 ko (lstore CT.toTab H72 57 v2 v112) fun H113 =>
 ko (lload CT.toTab H113 57 v2) fun v114 =>
 some (v114, H113))))
 (ko (lfieldAddr CT.toTab 57 v0 0) fun v115 =>
 ko (lload CT.toTab H72 3 v115) fun v116 =>
 ko (kbin CT .neq 3 (.tmp 27) (.const (.int .i64 4)) v116 (.int .i64 4)) fun v117 =>
 kcond v117
 (ko (lfieldAddr CT.toTab 57 v0 0) fun v118 =>
 ko (lload CT.toTab H72 3 v118) fun v119 =>
 ko (kbin CT .neq 3 (.tmp 31) (.const (.int .i64 6)) v119 (.int .i64 6)) fun v120 =>
 kcond v120
 (ko (lfieldAddr CT.toTab 57 v0 1) fun v121 =>
 ko (lstore CT.toTab H72 2 v121 (.int .i64 0)) fun H122 =>
 ko (lload CT.toTab H122 57 v0) fun v123 =>
 ko (lstore CT.toTab H122 57 v2 v123) fun H124 =>
 ko (lload CT.toTab H124 57 v2) fun v125 =>
 some (v125, H124))
 (ko (lload CT.toTab H72 57 v0) fun v126 =>
 ko (lstore CT.toTab H72 57 v2 v126) fun H127 =>
 ko (lload CT.toTab H127 57 v2) fun v128 =>
 some (v128, H127)))
 (ko (lload CT.toTab H72 57 v0) fun v129 =>
 ko (lstore CT.toTab H72 57 v2 v129) fun H130 =>
 ko (lload CT.toTab H130 57 v2) fun v131 =>
 some (v131, H130))))
 (ko (lfieldAddr CT.toTab 57 v0 0) fun v132 =>
 ko (lload CT.toTab H3 3 v132) fun v133 =>
 ko (kbin CT .eql 3 (.tmp 13) (.const (.int .i64 5)) v133 (.int .i64 5)) fun v134 =>
 kcond v134
 (ko (lfieldAddr CT.toTab 57 v0 0) fun v135 =>
 ko (lstore CT.toTab H3 3 v135 (.int .i64 3)) fun H136 =>
 ko (lfieldAddr CT.toTab 57 v0 0) fun v137 =>
 ko (lload CT.toTab H136 3 v137) fun v138 =>
 ko (kbin CT .neq 3 (.tmp 18) (.const (.int .i64 1)) v138 (.int .i64 1)) fun v139 =>
 kcond v139
 (ko (lfieldAddr CT.toTab 57 v0 0) fun v140 =>
 ko (lload CT.toTab H136 3 v140) fun v141 =>
 ko (kbin CT .neq 3 (.tmp 22) (.const (.int .i64 2)) v141 (.int .i64 2)) fun v142 =>
 kcond v142
 (ko (lfieldAddr CT.toTab 57 v0 2) fun v143 =>
 ko (lstore CT.toTab H136 46 v143 (.slice none 0 0)) fun H144 =>
 ko (lfieldAddr CT.toTab 57 v0 0) fun v145 =>
 ko (lload CT.toTab H144 3 v145) fun v146 =>
 ko (kbin CT .neq 3 (.tmp 27) (.const (.int .i64 4)) v146 (.int .i64 4)) fun v147 =>
 kcond v147
 (ko (lfieldAddr CT.toTab 57 v0 0) fun v148 =>
 ko (lload CT.toTab H144 3 v148) fun v149 =>
 ko (kbin CT .neq 3 (.tmp 31) (.const (.int .i64 6)) v149 (.int .i64 6)) fun v150 =>
 kcond v150
 (ko (lfieldAddr CT.toTab 57 v0 1) fun v151 =>
 ko (lstore CT.toTab H144 2 v151 (.int .i64 0)) fun H152 =>
 ko (lload CT.toTab H152 57 v0) fun v153 =>
 ko (lstore CT.toTab H152 57 v2 v153) fun H154 =>
 ko (lload CT.toTab H154 57 v2) fun v155 =>
 some (v155, H154))
 (ko (lload CT.toTab H144 57 v0) fun v156 =>
 ko (lstore CT.toTab H144 57 v2 v156) fun H157 =>
 ko (lload CT.toTab H157 57 v2) fun v158 =>
 some (v158, H157)))
 (ko (lload CT.toTab H144 57 v0) fun v159 =>
 ko (lstore CT.toTab H144 57 v2 v159) fun H160 =>
 ko (lload CT.toTab H160 57 v2) fun v161 =>
 some (v161, H160)))
 (ko (lfieldAddr CT.toTab 57 v0 0) fun v162 =>
 ko (lload CT.toTab H136 3 v162) fun v163 =>
 ko (kbin CT .neq 3 (.tmp 27) (.const (.int .i64 4)) v163 (.int .i64 4)) fun v164 =>
 kcond v164
 (ko (lfieldAddr CT.toTab 57 v0 0) fun v165 =>
 ko (lload CT.toTab H136 3 v165) fun v166 =>
 ko (kbin CT .neq 3 (.tmp 31) (.const (.int .i64 6)) v166 (.int .i64 6)) fun v167 =>
 kcond v167
 (ko (lfieldAddr CT.toTab 57 v0 1) fun v168 =>
 ko (lstore CT.toTab H136 2 v168 (.int .i64 0)) fun H169 =>
 ko (lload CT.toTab H169 57 v0) fun v170 =>
 ko (lstore CT.toTab H169 57 v2 v170) fun H171 =>
 ko (lload CT.toTab H171 57 v2) fun v172 =>
 some (v172, H171))
 (ko (lload CT.toTab H136 57 v0) fun v173 =>
 ko (lstore CT.toTab H136 57 v2 v173) fun H174 =>
 ko (lload CT.toTab H174 57 v2) fun v175 =>
 some (v175, H174)))
 (ko (lload CT.toTab H136 57 v0) fun v176 =>
 ko (lstore CT.toTab H136 57 v2 v176) fun H177 =>
 ko (lload CT.toTab H177 57 v2) fun v178 =>
 some (v178, H177))))
 (ko (lfieldAddr CT.toTab 57 v0 0) fun v179 =>
 ko (lload CT.toTab H136 3 v179) fun v180 =>
 ko (kbin CT .neq 3 (.tmp 27) (.const (.int .i64 4)) v180 (.int .i64 4)) fun v181 =>
 kcond v181
 (ko (lfieldAddr CT.toTab 57 v0 0) fun v182 =>
 ko (lload CT.toTab H136 3 v182) fun v183 =>
 ko (kbin CT .neq 3 (.tmp 31) (.const (.int .i64 6)) v183 (.int .i64 6)) fun v184 =>
 kcond v184
 (ko (lfieldAddr CT.toTab 57 v0 1) fun v185 =>
 ko (lstore CT.toTab H136 2 v185 (.int .i64 0)) fun H186 =>
 ko (lload CT.toTab H186 57 v0) fun v187 =>
 ko (lstore CT.toTab H186 57 v2 v187) fun H188 =>
 ko (lload CT.toTab H188 57 v2) fun v189 =>
 some (v189, H188))
 (ko (lload CT.toTab H136 57 v0) fun v190 =>
 ko (lstore CT.toTab H136 57 v2 v190) fun H191 =>
 ko (lload CT.toTab H191 57 v2) fun v192 =>
 some (v192, H191)))
 (ko (lload CT.toTab H136 57 v0) fun v193 =>
 ko (lstore CT.toTab H136 57 v2 v193) fun H194 =>
 ko (lload CT.toTab H194 57 v2) fun v195 =>
 some (v195, H194))))
 (ko (lfieldAddr CT.toTab 57 v0 0) fun v196 =>
 ko (lload CT.toTab H3 3 v196) fun v197 =>
 ko (kbin CT .neq 3 (.tmp 18) (.const (.int .i64 1)) v197 (.int .i64 1)) fun v198 =>
 kcond v198
 (ko (lfieldAddr CT.toTab 57 v0 0) fun v199 =>
 ko (lload CT.toTab H3 3 v199) fun v200 =>
 ko (kbin CT .neq 3 (.tmp 22) (.const (.int .i64 2)) v200 (.int .i64 2)) fun v201 =>
 kcond v201
 (ko (lfieldAddr CT.toTab 57 v0 2) fun v202 =>
 ko (lstore CT.toTab H3 46 v202 (.slice none 0 0)) fun H203 =>
 ko (lfieldAddr CT.toTab 57 v0 0) fun v204 =>
 ko (lload CT.toTab H203 3 v204) fun v205 =>
 ko (kbin CT .neq 3 (.tmp 27) (.const (.int .i64 4)) v205 (.int .i64 4)) fun v206 =>
 kcond v206
 (ko (lfieldAddr CT.toTab 57 v0 0) fun v207 =>
 ko (lload CT.toTab H203 3 v207) fun v208 =>
 ko (kbin CT .neq 3 (.tmp 31) (.const (.int .i64 6)) v208 (.int .i64 6)) fun v209 =>
 kcond v209
 (ko (lfieldAddr CT.toTab 57 v0 1) fun v210 =>
 ko (lstore CT.toTab H203 2 v210 (.int .i64 0)) fun H211 =>
 ko (lload CT.toTab H211 57 v0) fun v212 =>
 ko (lstore CT.toTab H211 57 v2 v212) fun H213 =>
 ko (lload CT.toTab H213 57 v2) fun v214 =>
 some (v214, H213))
 (ko (lload CT.toTab H203 57 v0) fun v215 =>
 ko (lstore CT.toTab H203 57 v2 v215) fun H216 =>
 ko (lload CT.toTab H216 57 v2) fun v217 =>
 some (v217, H216)))
 (ko (lload CT.toTab H203 57 v0) fun v218 =>
 ko (lstore CT.toTab H203 57 v2 v218) fun H219 =>
 ko (lload CT.toTab H219 57 v2) fun v220 =>
 some (v220, H219)))
 (ko (lfieldAddr CT.toTab 57 v0 0) fun v221 =>
 ko (lload CT.toTab H3 3 v221) fun v222 =>
 ko (kbin CT .neq 3 (.tmp 27) (.const (.int .i64 4)) v222 (.int .i64 4)) fun v223 =>
 kcond v223
 (ko (lfieldAddr CT.toTab 57 v0 0) fun v224 =>
 ko (lload CT.toTab H3 3 v224) fun v225 =>
 ko (kbin CT .neq 3 (.tmp 31) (.const (.int .i64 6)) v225 (.int .i64 6)) fun v226 =>
 kcond v226
 (ko (lfieldAddr CT.toTab 57 v0 1) fun v227 =>
 ko (lstore CT.toTab H3 2 v227 (.int .i64 0)) fun H228 =>
 ko (lload CT.toTab H228 57 v0) fun v229 =>
 ko (lstore CT.toTab H228 57 v2 v229) fun H230 =>
 ko (lload CT.toTab H230 57 v2) fun v231 =>
 some (v231, H230))
 (ko (lload CT.toTab H3 57 v0) fun v232 =>
 ko (lstore CT.toTab H3 57 v2 v232) fun H233 =>
 ko (lload CT.toTab H233 57 v2) fun v234 =>
 some (v234, H233)))
 (ko (lload CT.toTab H3 57 v0) fun v235 =>
 ko (lstore CT.toTab H3 57 v2 v235) fun H236 =>
 ko (lload CT.toTab H236 57 v2) fun v237 =>
 some (v237, H236))))
 (ko (lfieldAddr CT.toTab 57 v0 0) fun v238 =>
 ko (lload CT.toTab H3 3 v238) fun v239 =>
 ko (kbin CT .neq 3 (.tmp 27) (.const (.int .i64 4)) v239 (.int .i64 4)) fun v240 =>
 kcond v240
 (ko (lfieldAddr CT.toTab 57 v0 0) fun v241 =>
 ko (lload CT.toTab H3 3 v241) fun v242 =>
 ko (kbin CT .neq 3 (.tmp 31) (.const (.int .i64 6)) v242 (.int .i64 6)) fun v243 =>
 kcond v243
 (ko (lfieldAddr CT.toTab 57 v0 1) fun v244 =>
 ko (lstore CT.toTab H3 2 v244 (.int .i64 0)) fun H245 =>
 ko (lload CT.toTab H245 57 v0) fun v246 =>
 ko (lstore CT.toTab H245 57 v2 v246) fun H247 =>
 ko (lload CT.toTab H247 57 v2) fun v248 =>
 some (v248, H247))
 (ko (lload CT.toTab H3 57 v0) fun v249 =>
 ko (lstore CT.toTab H3 57 v2 v249) fun H250 =>
 ko (lload CT.toTab H250 57 v2) fun v251 =>
 some (v251, H250)))
 (ko (lload CT.toTab H3 57 v0) fun v252 =>
 ko (lstore CT.toTab H3 57 v2 v252) fun H253 =>
 ko (lload CT.toTab H253 57 v2) fun v254 =>
 some (v254, H253))))))
theorem K20 (call : LCall) (dcall : LDCall) (round : LRound) (x0 : Value) (H : LH) : R20 call dcall round x0 H = kcall1 CT call dcall round 20 [x0] H := by kernel_rfl
theorem L20 {n : Nat} {x0 : Value} {H : LH} {r : Value × LH} (h : R20 (lcall CT n) (ldcall CT n) (lround CT n) x0 H = some r) : lcall CT (n + 1) 20 [x0] H = some r := lcall_k CT_tab (by rw [← K20]; exact h)

/-- flume/flumelaw22.Do -/
noncomputable def R19 (call : LCall) (_dcall : LDCall) (_round : LRound) (x0 x1 : Value) (H : LH) : Option (Value × LH) :=
 ko2 (lnew H 57 x1) fun v0 H1 =>
 ko2 (lalloc CT.toTab H1 70) fun v2 H3 =>
 ko (lfieldAddr CT.toTab 57 v0 0) fun v4 =>
 ko (lload CT.toTab H3 3 v4) fun v5 =>
 ko (kbin CT .eql 3 (.tmp 12) (.const (.int .i64 1)) v5 (.int .i64 1)) fun v6 =>
 kcond v6
 (ko (lfieldAddr CT.toTab 57 v0 2) fun v7 =>
 ko (lload CT.toTab H3 46 v7) fun v8 =>
 ko2 (call 33 [x0, v8] H3) fun v9 H10 =>
 ko (lextract v9 0) fun v11 =>
 ko (lextract v9 1) fun v12 =>
 ko (lbuild CT.toTab 70 [(0, v12), (1, v11)]) fun v13 =>
 ko (lstore CT.toTab H10 70 v2 v13) fun H14 =>
 ko (lload CT.toTab H14 70 v2) fun v15 =>
 some (v15, H14))
 (ko (kbin CT .eql 3 (.tmp 12) (.const (.int .i64 2)) v5 (.int .i64 2)) fun v16 =>
 kcond v16
 (ko (lfieldAddr CT.toTab 57 v0 2) fun v17 =>
 ko (lload CT.toTab H3 46 v17) fun v18 =>
 ko2 (call 13 [x0, v18] H3) fun v19 H20 =>
 ko (lextract v19 0) fun v21 =>
 ko (lextract v19 1) fun v22 =>
 ko (lbuild CT.toTab 70 [(0, v22), (1, v21)]) fun v23 =>
 ko (lstore CT.toTab H20 70 v2 v23) fun H24 =>
 ko (lload CT.toTab H24 70 v2) fun v25 =>
 some (v25, H24))
 (ko (kbin CT .eql 3 (.tmp 12) (.const (.int .i64 3)) v5 (.int .i64 3)) fun v26 =>
 kcond v26
 (ko2 (call 17 [x0] H3) fun v27 H28 =>
 ko (lbuild CT.toTab 70 [(0, v27)]) fun v29 =>
 ko (lstore CT.toTab H28 70 v2 v29) fun H30 =>
 ko (lload CT.toTab H30 70 v2) fun v31 =>
 some (v31, H30))
 (ko (kbin CT .eql 3 (.tmp 12) (.const (.int .i64 4)) v5 (.int .i64 4)) fun v32 =>
 kcond v32
 (ko (lfieldAddr CT.toTab 57 v0 1) fun v33 =>
 ko (lload CT.toTab H3 2 v33) fun v34 =>
 ko2 (call 41 [x0, v34] H3) fun v35 H36 =>
 ko (lextract v35 0) fun v37 =>
 ko (lextract v35 1) fun v38 =>
 ko2 (lalloc CT.toTab H36 48) fun v39 H40 =>
 ko (lstore CT.toTab H40 48 v39 v37) fun H41 =>
 ko (lfieldAddr CT.toTab 48 v39 0) fun v42 =>
 ko (lload CT.toTab H41 2 v42) fun v43 =>
 ko (lfieldAddr CT.toTab 48 v39 1) fun v44 =>
 ko (lload CT.toTab H41 46 v44) fun v45 =>
 ko (lbuild CT.toTab 70 [(0, v38), (1, v43), (2, v45)]) fun v46 =>
 ko (lstore CT.toTab H41 70 v2 v46) fun H47 =>
 ko (lload CT.toTab H47 70 v2) fun v48 =>
 some (v48, H47))
 (ko (kbin CT .eql 3 (.tmp 12) (.const (.int .i64 6)) v5 (.int .i64 6)) fun v49 =>
 kcond v49
 (ko (lfieldAddr CT.toTab 57 v0 1) fun v50 =>
 ko (lload CT.toTab H3 2 v50) fun v51 =>
 ko2 (call 18 [x0, v51] H3) fun v52 H53 =>
 ko (lbuild CT.toTab 70 [(0, v52)]) fun v54 =>
 ko (lstore CT.toTab H53 70 v2 v54) fun H55 =>
 ko (lload CT.toTab H55 70 v2) fun v56 =>
 some (v56, H55))
 (ko2 (call 28 [x0] H3) fun v57 H58 =>
 ko (lbuild CT.toTab 70 [(0, v57)]) fun v59 =>
 ko (lstore CT.toTab H58 70 v2 v59) fun H60 =>
 ko (lload CT.toTab H60 70 v2) fun v61 =>
 some (v61, H60))))))
theorem K19 (call : LCall) (dcall : LDCall) (round : LRound) (x0 x1 : Value) (H : LH) : R19 call dcall round x0 x1 H = kcall1 CT call dcall round 19 [x0, x1] H := by kernel_rfl
theorem L19 {n : Nat} {x0 x1 : Value} {H : LH} {r : Value × LH} (h : R19 (lcall CT n) (ldcall CT n) (lround CT n) x0 x1 H = some r) : lcall CT (n + 1) 19 [x0, x1] H = some r := lcall_k CT_tab (by rw [← K19]; exact h)

/-- (*flume/wal.Log).All$1 -/
noncomputable def R42 (call : LCall) (dcall : LDCall) (round : LRound) (x0 x1 x2 : Value) (H : LH) : Option (Value × LH) :=
 ko (lload CT.toTab (LH.gap H 6) 2 x1) fun v0 =>
 ko (lload CT.toTab (LH.gap H 6) 25 x2) fun v1 =>
 ko2 (call 22 [v1] (LH.gap H 6)) fun v2 H3 =>
 ko (lload CT.toTab H3 2 x1) fun v4 =>
 ktest (veq 20 v4 v0) <|
 ko (lfield CT.toTab 77 v2 0) fun v5 =>
 ko (kflatCall CT.P ⟨(some 11), .call ⟨(.builtin .max), #[(.tmp 7), (.tmp 10)], #[2, 2]⟩, 2, "wal.go:115", #[], none⟩ ⟨(.builtin .max), #[(.tmp 7), (.tmp 10)], #[2, 2]⟩ [v0, v5]) fun v6 =>
 ko2 (literate (fun s7 =>
 ko (lload CT.toTab s7.heap 25 (lk s7.tmps 2)) fun v8 =>
 ko2 (call 41 [v8, (lk s7.tmps 4)] s7.heap) fun v9 H10 =>
 ko (lextract v9 0) fun v11 =>
 ko (lextract v9 1) fun v12 =>
 ko2 (lalloc CT.toTab H10 48) fun v13 H14 =>
 ko (lstore CT.toTab H14 48 v13 v11) fun H15 =>
 ko (kbin CT .neq 28 (.tmp 20) (.const (.int .i64 0)) v12 (.int .i64 0)) fun v16 =>
 kcond v16
 (some (.ret, (LS.mk (PT.over (sets [(15, v8), (16, (lk s7.tmps 4)), (17, v9), (14, v9), (18, v11), (19, v12), (5, v13), (6, v12), (20, v12), (21, v16), (23, undef), (24, undef), (25, undef), (22, (.bool true)), (26, undef), (27, (.bool true))] PT.nil) s7.tmps) s7.defers H15)))
 (ko (lload CT.toTab H15 48 v13) fun v17 =>
 kcallv CT call round H15 (lk s7.tmps 0) [v17] fun v18 H19 =>
 ko (kun CT .not v18) fun v20 =>
 kcond v20
 (some (.ret, (LS.mk (PT.over (sets [(15, v8), (16, (lk s7.tmps 4)), (17, v9), (14, v9), (18, v11), (19, v12), (5, v13), (6, v12), (20, v12), (21, v16), (23, (lk s7.tmps 0)), (24, v17), (25, v18), (22, (.bool false)), (26, v20), (27, v20)] PT.nil) s7.tmps) s7.defers H19)))
 (ko (kbin CT .add 2 (.tmp 12) (.const (.int .i64 1)) (lk s7.tmps 4) (.int .i64 1)) fun v21 =>
 some (.normal, (LS.mk (PT.over (sets [(15, v8), (16, (lk s7.tmps 4)), (17, v9), (14, v9), (18, v11), (19, v12), (5, v13), (6, v12), (20, v12), (21, v16), (23, (lk s7.tmps 0)), (24, v17), (25, v18), (22, (.bool false)), (26, v20), (27, v20), (12, (lk s7.tmps 4)), (13, v21), (4, v21)] PT.nil) s7.tmps) s7.defers H19))))) lrounds (LS.mk (sets [(0, x0), (1, x1), (2, x2), (7, v0), (8, v1), (9, v2), (10, v5), (11, v6), (4, v6)] PT.nil) [] H3)) fun e22 s23 =>
 kret e22 <|
 kdefers CT dcall s23.defers s23.heap fun H24 =>
 some (.tuple #[], H24)
theorem K42 (call : LCall) (dcall : LDCall) (round : LRound) (x0 x1 x2 : Value) (H : LH) : R42 call dcall round x0 x1 x2 H = kcall1 CT call dcall round 42 [x0, x1, x2] H := by kernel_rfl
theorem L42 {n : Nat} {x0 x1 x2 : Value} {H : LH} {r : Value × LH} (h : R42 (lcall CT n) (ldcall CT n) (lround CT n) x0 x1 x2 H = some r) : lcall CT (n + 1) 42 [x0, x1, x2] H = some r := lcall_k CT_tab (by rw [← K42]; exact h)

/-- flume/flumelaw22.WalNone -/
noncomputable def R4 (call : LCall) (dcall : LDCall) (round : LRound) (x0 x1 : Value) (H : LH) : Option (Value × LH) :=
 ko2 (lnew H 57 x0) fun v0 H1 =>
 ko2 (lalloc CT.toTab H1 4) fun v2 H3 =>
 ko2 (call 8 [] H3) fun v4 H5 =>
 ko (kun CT .not v4) fun v6 =>
 kcond v6
 (ko (lstore CT.toTab H5 4 v2 (.bool false)) fun H7 =>
 ko (lload CT.toTab H7 4 v2) fun v8 =>
 some (v8, H7))
 (ko (lbuild CT.toTab 67 []) fun v9 =>
 ko2 (lnew H5 67 v9) fun v10 H11 =>
 ko2 (lbuildSlice CT.toTab H11 68 2 [(0, (.pointer none)), (1, v10)]) fun v12 H13 =>
 ko2 (literate (fun s14 =>
 ko (klen CT.toTab s14.heap 68 (lk s14.tmps 6)) fun v15 =>
 ko (kbin CT .lss 3 (.tmp 21) (.tmp 23) (lk s14.tmps 7) v15) fun v16 =>
 kcond v16
 (ko (ifFlat (lk s14.tmps 7) (lindexAddr CT.toTab 68 (lk s14.tmps 6) (lk s14.tmps 7))) fun v17 =>
 ko (lload CT.toTab (LH.gap s14.heap 9) 25 v17) fun v18 =>
 ko (lload CT.toTab (LH.gap s14.heap 9) 57 (lk s14.tmps 2)) fun v19 =>
 ko2 (call 20 [v19] (LH.gap s14.heap 9)) fun v20 H21 =>
 ktest (veq 20 (lk s14.tmps 6) (lk s14.tmps 6)) <|
 ktest (veq 20 (lk s14.tmps 7) (lk s14.tmps 7)) <|
 ko (ifFlat (lk s14.tmps 7) (lindexAddr CT.toTab 68 (lk s14.tmps 6) (lk s14.tmps 7))) fun v22 =>
 ktest (veq 20 v22 v17) <|
 ko (lload CT.toTab H21 25 v17) fun v23 =>
 ktest (veq 20 v23 v18) <|
 ko2 (call 19 [v18, v20] H21) fun v24 H25 =>
 ko (lstore CT.toTab (LH.put H25 (LH.next s14.heap + 7) (some (.cells [(.int .i64 0), (.int .i64 0), (.slice none 0 0)] 70 1))) 70 (.pointer (some ⟨LH.next s14.heap + 7, 0, none⟩)) v24) fun H26 =>
 ko (ifFlat (lk s14.tmps 7) (lindexAddr CT.toTab 68 (lk s14.tmps 6) (lk s14.tmps 7))) fun v27 =>
 ko (lload CT.toTab H26 25 v27) fun v28 =>
 ko2 (call 12 [v28, (lk s14.tmps 1)] H26) fun v29 H30 =>
 ko (kbin CT .eql 41 (.tmp 40) (.const (.pointer none)) v29 (.pointer none)) fun v31 =>
 kcond v31
 (ko (lstore CT.toTab H30 4 (lk s14.tmps 4) (.bool false)) fun H32 =>
 some (.ret, (LS.mk (PT.over (sets [(21, (lk s14.tmps 7)), (22, (lk s14.tmps 6)), (23, v15), (24, v16), (27, (lk s14.tmps 6)), (28, (lk s14.tmps 7)), (29, v17), (30, v18), (31, v19), (32, v20), (33, v24), (8, (.pointer (some ⟨LH.next s14.heap + 7, 0, none⟩))), (34, (lk s14.tmps 6)), (35, (lk s14.tmps 7)), (36, v27), (37, v28), (38, (lk s14.tmps 1)), (39, v29), (9, v29), (40, v29), (41, v31), (43, undef), (44, undef), (45, undef), (46, undef), (47, undef), (48, undef), (42, (.bool true)), (49, undef), (50, (.bool true))] PT.nil) s14.tmps) s14.defers H32)))
 (ko (ifFlat (lk s14.tmps 7) (lindexAddr CT.toTab 68 (lk s14.tmps 6) (lk s14.tmps 7))) fun v33 =>
 ko (lload CT.toTab H30 25 v33) fun v34 =>
 ko2 (call 21 [v34, (lk s14.tmps 1)] H30) fun v35 H36 =>
 ko (kbin CT .eql 74 (.tmp 48) (.const .nilFunc) v35 .nilFunc) fun v37 =>
 kcond v37
 (ko (lstore CT.toTab H36 4 (lk s14.tmps 4) (.bool false)) fun H38 =>
 some (.ret, (LS.mk (PT.over (sets [(21, (lk s14.tmps 7)), (22, (lk s14.tmps 6)), (23, v15), (24, v16), (27, (lk s14.tmps 6)), (28, (lk s14.tmps 7)), (29, v17), (30, v18), (31, v19), (32, v20), (33, v24), (8, (.pointer (some ⟨LH.next s14.heap + 7, 0, none⟩))), (34, (lk s14.tmps 6)), (35, (lk s14.tmps 7)), (36, v27), (37, v28), (38, (lk s14.tmps 1)), (39, v29), (9, v29), (40, v29), (41, v31), (43, (lk s14.tmps 6)), (44, (lk s14.tmps 7)), (45, v33), (46, v34), (47, (lk s14.tmps 1)), (48, v35), (42, (.bool false)), (49, v37), (50, v37)] PT.nil) s14.tmps) s14.defers H38)))
 (ko2 (call 14 [v29] H36) fun v39 H40 =>
 ko (lextract v39 0) fun v41 =>
 ko (lextract v39 1) fun v42 =>
 ko2 (lalloc CT.toTab H40 48) fun v43 H44 =>
 ko (lstore CT.toTab H44 48 v43 v41) fun H45 =>
 ko (ifFlat (lk s14.tmps 7) (lindexAddr CT.toTab 68 (lk s14.tmps 6) (lk s14.tmps 7))) fun v46 =>
 ko (lload CT.toTab H45 25 v46) fun v47 =>
 ko2 (call 21 [v47, (lk s14.tmps 1)] H45) fun v48 H49 =>
 ko2 (lcode CT call round .plain (codeAt [1, 1, 1, 1, 0, 1, 0, 0, 1, 0, 0, 1, 1, 1, 1, 0, 1, 0] (bodyOf CT 4)) (LS.mk (PT.over (sets [(21, (lk s14.tmps 7)), (22, (lk s14.tmps 6)), (23, v15), (24, v16), (27, (lk s14.tmps 6)), (28, (lk s14.tmps 7)), (29, v17), (30, v18), (31, v19), (32, v20), (33, v24), (8, (.pointer (some ⟨LH.next s14.heap + 7, 0, none⟩))), (34, (lk s14.tmps 6)), (35, (lk s14.tmps 7)), (36, v27), (37, v28), (38, (lk s14.tmps 1)), (39, v29), (9, v29), (40, v29), (41, v31), (43, (lk s14.tmps 6)), (44, (lk s14.tmps 7)), (45, v33), (46, v34), (47, (lk s14.tmps 1)), (48, v35), (42, (.bool false)), (49, v37), (50, v37), (52, v29), (53, v39), (51, v39), (54, v41), (55, v42), (10, v43), (11, v42), (56, (lk s14.tmps 6)), (57, (lk s14.tmps 7)), (58, v46), (59, v47), (60, (lk s14.tmps 1)), (61, v48)] PT.nil) s14.tmps) s14.defers H49)) fun e50 s51 =>
 knormal e50
 (ko (lfieldAddr CT.toTab 70 (lk s51.tmps 8) 0) fun v52 =>
 ko (lload CT.toTab s51.heap 28 v52) fun v53 =>
 ko (kbin CT .neq 28 (.tmp 64) (.const (.int .i64 41)) v53 (.int .i64 41)) fun v54 =>
 kcond v54
 (ko (lstore CT.toTab s51.heap 4 (lk s51.tmps 4) (.bool false)) fun H55 =>
 some (.ret, (LS.mk (PT.over (sets [(63, v52), (64, v53), (65, v54), (67, undef), (68, undef), (66, (.bool true)), (69, undef), (70, (.bool true)), (72, undef), (73, undef), (74, undef), (71, (.bool true)), (75, undef), (76, (.bool true)), (78, undef), (77, (.bool true)), (79, undef), (80, (.bool true)), (82, undef), (83, undef), (81, (.bool true)), (84, undef), (85, (.bool true)), (87, undef), (88, undef), (89, undef), (86, (.bool true)), (90, undef), (91, (.bool true)), (93, undef), (94, undef), (95, undef), (96, undef), (97, undef), (98, undef), (92, (.bool true)), (99, undef), (100, (.bool true))] PT.nil) s51.tmps) s51.defers H55)))
 (ko (lfieldAddr CT.toTab 70 (lk s51.tmps 8) 1) fun v56 =>
 ko (lload CT.toTab s51.heap 2 v56) fun v57 =>
 ko (kbin CT .neq 2 (.tmp 68) (.const (.int .i64 0)) v57 (.int .i64 0)) fun v58 =>
 kcond v58
 (ko (lstore CT.toTab s51.heap 4 (lk s51.tmps 4) (.bool false)) fun H59 =>
 some (.ret, (LS.mk (PT.over (sets [(63, v52), (64, v53), (65, v54), (67, v56), (68, v57), (66, (.bool false)), (69, v58), (70, v58), (72, undef), (73, undef), (74, undef), (71, (.bool true)), (75, undef), (76, (.bool true)), (78, undef), (77, (.bool true)), (79, undef), (80, (.bool true)), (82, undef), (83, undef), (81, (.bool true)), (84, undef), (85, (.bool true)), (87, undef), (88, undef), (89, undef), (86, (.bool true)), (90, undef), (91, (.bool true)), (93, undef), (94, undef), (95, undef), (96, undef), (97, undef), (98, undef), (92, (.bool true)), (99, undef), (100, (.bool true))] PT.nil) s51.tmps) s51.defers H59)))
 (ko (lfieldAddr CT.toTab 70 (lk s51.tmps 8) 2) fun v60 =>
 ko (lload CT.toTab s51.heap 46 v60) fun v61 =>
 ko (klen CT.toTab s51.heap 46 v61) fun v62 =>
 ko (kbin CT .neq 3 (.tmp 74) (.const (.int .i64 0)) v62 (.int .i64 0)) fun v63 =>
 kcond v63
 (ko (lstore CT.toTab s51.heap 4 (lk s51.tmps 4) (.bool false)) fun H64 =>
 some (.ret, (LS.mk (PT.over (sets [(63, v52), (64, v53), (65, v54), (67, v56), (68, v57), (66, (.bool false)), (69, v58), (70, v58), (72, v60), (73, v61), (74, v62), (71, (.bool false)), (75, v63), (76, v63), (78, undef), (77, (.bool true)), (79, undef), (80, (.bool true)), (82, undef), (83, undef), (81, (.bool true)), (84, undef), (85, (.bool true)), (87, undef), (88, undef), (89, undef), (86, (.bool true)), (90, undef), (91, (.bool true)), (93, undef), (94, undef), (95, undef), (96, undef), (97, undef), (98, undef), (92, (.bool true)), (99, undef), (100, (.bool true))] PT.nil) s51.tmps) s51.defers H64)))
 (ko (kbin CT .neq 28 (.tmp 78) (.const (.int .i64 41)) (lk s51.tmps 11) (.int .i64 41)) fun v65 =>
 kcond v65
 (ko (lstore CT.toTab s51.heap 4 (lk s51.tmps 4) (.bool false)) fun H66 =>
 some (.ret, (LS.mk (PT.over (sets [(63, v52), (64, v53), (65, v54), (67, v56), (68, v57), (66, (.bool false)), (69, v58), (70, v58), (72, v60), (73, v61), (74, v62), (71, (.bool false)), (75, v63), (76, v63), (78, (lk s51.tmps 11)), (77, (.bool false)), (79, v65), (80, v65), (82, undef), (83, undef), (81, (.bool true)), (84, undef), (85, (.bool true)), (87, undef), (88, undef), (89, undef), (86, (.bool true)), (90, undef), (91, (.bool true)), (93, undef), (94, undef), (95, undef), (96, undef), (97, undef), (98, undef), (92, (.bool true)), (99, undef), (100, (.bool true))] PT.nil) s51.tmps) s51.defers H66)))
 (ko (lfieldAddr CT.toTab 48 (lk s51.tmps 10) 0) fun v67 =>
 ko (lload CT.toTab s51.heap 2 v67) fun v68 =>
 ko (kbin CT .neq 2 (.tmp 83) (.const (.int .i64 0)) v68 (.int .i64 0)) fun v69 =>
 kcond v69
 (ko (lstore CT.toTab s51.heap 4 (lk s51.tmps 4) (.bool false)) fun H70 =>
 some (.ret, (LS.mk (PT.over (sets [(63, v52), (64, v53), (65, v54), (67, v56), (68, v57), (66, (.bool false)), (69, v58), (70, v58), (72, v60), (73, v61), (74, v62), (71, (.bool false)), (75, v63), (76, v63), (78, (lk s51.tmps 11)), (77, (.bool false)), (79, v65), (80, v65), (82, v67), (83, v68), (81, (.bool false)), (84, v69), (85, v69), (87, undef), (88, undef), (89, undef), (86, (.bool true)), (90, undef), (91, (.bool true)), (93, undef), (94, undef), (95, undef), (96, undef), (97, undef), (98, undef), (92, (.bool true)), (99, undef), (100, (.bool true))] PT.nil) s51.tmps) s51.defers H70)))
 (ko2 (call 15 [(lk s51.tmps 9)] s51.heap) fun v71 H72 =>
 ko (kbin CT .neq 2 (.tmp 88) (.tmp 89) v71 (lk s51.tmps 1)) fun v73 =>
 kcond v73
 (ko (lstore CT.toTab H72 4 (lk s51.tmps 4) (.bool false)) fun H74 =>
 some (.ret, (LS.mk (PT.over (sets [(63, v52), (64, v53), (65, v54), (67, v56), (68, v57), (66, (.bool false)), (69, v58), (70, v58), (72, v60), (73, v61), (74, v62), (71, (.bool false)), (75, v63), (76, v63), (78, (lk s51.tmps 11)), (77, (.bool false)), (79, v65), (80, v65), (82, v67), (83, v68), (81, (.bool false)), (84, v69), (85, v69), (87, (lk s51.tmps 9)), (88, v71), (89, (lk s51.tmps 1)), (86, (.bool false)), (90, v73), (91, v73), (93, undef), (94, undef), (95, undef), (96, undef), (97, undef), (98, undef), (92, (.bool true)), (99, undef), (100, (.bool true))] PT.nil) s51.tmps) s51.defers H74)))
 (ko (ifFlat (lk s51.tmps 7) (lindexAddr CT.toTab 68 (lk s51.tmps 6) (lk s51.tmps 7))) fun v75 =>
 ko (lload CT.toTab H72 25 v75) fun v76 =>
 ko2 (call 22 [v76] H72) fun v77 H78 =>
 ko (lbuild CT.toTab 77 []) fun v79 =>
 ko (kbin CT .neq 77 (.tmp 97) (.tmp 98) v77 v79) fun v80 =>
 kcond v80
 (ko (lstore CT.toTab H78 4 (lk s51.tmps 4) (.bool false)) fun H81 =>
 some (.ret, (LS.mk (PT.over (sets [(63, v52), (64, v53), (65, v54), (67, v56), (68, v57), (66, (.bool false)), (69, v58), (70, v58), (72, v60), (73, v61), (74, v62), (71, (.bool false)), (75, v63), (76, v63), (78, (lk s51.tmps 11)), (77, (.bool false)), (79, v65), (80, v65), (82, v67), (83, v68), (81, (.bool false)), (84, v69), (85, v69), (87, (lk s51.tmps 9)), (88, v71), (89, (lk s51.tmps 1)), (86, (.bool false)), (90, v73), (91, v73), (93, (lk s51.tmps 6)), (94, (lk s51.tmps 7)), (95, v75), (96, v76), (97, v77), (98, v79), (92, (.bool false)), (99, v80), (100, v80)] PT.nil) s51.tmps) s51.defers H81)))
 (ko (kbin CT .add 3 (.tmp 25) (.const (.int .i64 1)) (lk s51.tmps 7) (.int .i64 1)) fun v82 =>
 some (.normal, (LS.mk (PT.over (sets [(63, v52), (64, v53), (65, v54), (67, v56), (68, v57), (66, (.bool false)), (69, v58), (70, v58), (72, v60), (73, v61), (74, v62), (71, (.bool false)), (75, v63), (76, v63), (78, (lk s51.tmps 11)), (77, (.bool false)), (79, v65), (80, v65), (82, v67), (83, v68), (81, (.bool false)), (84, v69), (85, v69), (87, (lk s51.tmps 9)), (88, v71), (89, (lk s51.tmps 1)), (86, (.bool false)), (90, v73), (91, v73), (93, (lk s51.tmps 6)), (94, (lk s51.tmps 7)), (95, v75), (96, v76), (97, v77), (98, v79), (92, (.bool false)), (99, v80), (100, v80), (25, (lk s51.tmps 7)), (26, v82), (7, v82)] PT.nil) s51.tmps) s51.defers H78))))))))))
 (kret e50 <|
 some (.ret, (LS.mk (PT.over (sets [] PT.nil) s51.tmps) s51.defers s51.heap))))))
 (some ((.exit 0), (LS.mk (PT.over (sets [(21, (lk s14.tmps 7)), (22, (lk s14.tmps 6)), (23, v15), (24, v16)] PT.nil) s14.tmps) s14.defers s14.heap)))) lrounds (LS.mk (sets [(0, x0), (1, x1), (2, v0), (4, v2), (15, v4), (16, v6), (5, (.pointer none)), (17, (.pointer none)), (18, v9), (19, v10), (20, v12), (6, v12), (7, (.int .i64 0))] PT.nil) [] H13)) fun e83 s84 =>
 kexit e83 0
 (ko2 (call 23 [(.pointer none), (lk s84.tmps 1)] s84.heap) fun _ H86 =>
 ko2 (call 14 [(.pointer none)] H86) fun v87 H88 =>
 ko (lextract v87 0) fun v89 =>
 ko (lextract v87 1) fun v90 =>
 ko2 (lalloc CT.toTab H88 48) fun v91 H92 =>
 ko (lstore CT.toTab H92 48 v91 v89) fun H93 =>
 ko (lfieldAddr CT.toTab 48 v91 0) fun v94 =>
 ko (lload CT.toTab H93 2 v94) fun v95 =>
 ko (kbin CT .eql 2 (.tmp 110) (.const (.int .i64 0)) v95 (.int .i64 0)) fun v96 =>
 kcond v96
 (ko (lfieldAddr CT.toTab 48 v91 1) fun v97 =>
 ko (lload CT.toTab H93 46 v97) fun v98 =>
 ko (klen CT.toTab H93 46 v98) fun v99 =>
 ko (kbin CT .eql 3 (.tmp 115) (.const (.int .i64 0)) v99 (.int .i64 0)) fun v100 =>
 kcond v100
 (ko (kbin CT .eql 28 (.tmp 119) (.const (.int .i64 1)) v90 (.int .i64 1)) fun v101 =>
 kcond v101
 (ko2 (call 15 [(.pointer none)] H93) fun v102 H103 =>
 ko (kbin CT .eql 2 (.tmp 124) (.const (.int .i64 0)) v102 (.int .i64 0)) fun v104 =>
 ko (lstore CT.toTab H103 4 (lk s84.tmps 4) v104) fun H105 =>
 kdefers CT dcall s84.defers H105 fun H106 =>
 ko (lload CT.toTab H106 4 (lk s84.tmps 4)) fun v107 =>
 some (v107, H106))
 (ko (lstore CT.toTab H93 4 (lk s84.tmps 4) (.bool false)) fun H108 =>
 kdefers CT dcall s84.defers H108 fun H109 =>
 ko (lload CT.toTab H109 4 (lk s84.tmps 4)) fun v110 =>
 some (v110, H109)))
 (ko (lstore CT.toTab H93 4 (lk s84.tmps 4) (.bool false)) fun H111 =>
 kdefers CT dcall s84.defers H111 fun H112 =>
 ko (lload CT.toTab H112 4 (lk s84.tmps 4)) fun v113 =>
 some (v113, H112)))
 (ko (lstore CT.toTab H93 4 (lk s84.tmps 4) (.bool false)) fun H114 =>
 kdefers CT dcall s84.defers H114 fun H115 =>
 ko (lload CT.toTab H115 4 (lk s84.tmps 4)) fun v116 =>
 some (v116, H115)))
 (kret e83 <|
 kdefers CT dcall s84.defers s84.heap fun H117 =>
 ko (lload CT.toTab H117 4 (lk s84.tmps 4)) fun v118 =>
 some (v118, H117)))
theorem K4 (call : LCall) (dcall : LDCall) (round : LRound) (x0 x1 : Value) (H : LH) : R4 call dcall round x0 x1 H = kcall1 CT call dcall round 4 [x0, x1] H := by kernel_rfl
theorem L4 {n : Nat} {x0 x1 : Value} {H : LH} {r : Value × LH} (h : R4 (lcall CT n) (ldcall CT n) (lround CT n) x0 x1 H = some r) : lcall CT (n + 1) 4 [x0, x1] H = some r := lcall_k CT_tab (by rw [← K4]; exact h)

end Go.Proofs.YtiedaccgagnofaaGreat
