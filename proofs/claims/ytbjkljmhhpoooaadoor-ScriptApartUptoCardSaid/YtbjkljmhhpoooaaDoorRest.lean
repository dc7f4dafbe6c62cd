/- What Parse does behind its loop, where the header was one and the lines were not too many: the plan is its result. -/
import Derived.Test.YtbjkljmhhpoooaaDoorLoop
namespace Go.Proofs.YtbjkljmhhpoooaaDoor
open Go.RowKit
set_option linter.unusedVariables false

set_option maxRecDepth 100000 in
set_option maxHeartbeats 1000000 in
theorem rest_wp (st : PS) (hcl : st.cl ≠ 0) (hmn : st.many = false) (w : World) (lo res p c : Nat) (sv : Value) (hp : PMem w lo res p st sv) (v0 v1 v3 v4 v8 v9 v10 v11 v12 v13 v14 v15 v16 v18 v19 v20 v21 v22 v23 v24 v25 v26 v27 v28 v29 v30 v31 v32 v33 v34 v35 v36 v37 v38 v39 v40 v41 v42 v43 v44 v45 v46 v47 v48 v49 v50 : Value) :
    restP.wp Tryd.prog (fun e a' w' => match e with | .ret => ∃ T, a' = ⟨T, []⟩ ∧ T[2]? = some (.pointer (some ⟨res, 0, none⟩)) ∧ T[3]? = some .nilIface ∧ w'.heap[res]? = some (.cells #[.int .i64 st.cl, sv] 31 (0, 0)) ∧ EntsAt w' lo sv st.es ∧ Below lo w w' | _ => False) ⟨#[v0, v1, .pointer (some ⟨res, 0, none⟩), v3, v4, .pointer (some ⟨p, 0, none⟩), .bool st.first, .bool st.many, v8, v9, v10, v11, v12, v13, v14, v15, v16, .chan (some c), v18, v19, v20, v21, v22, v23, v24, v25, v26, v27, v28, v29, v30, v31, v32, v33, v34, v35, v36, v37, v38, v39, v40, v41, v42, v43, v44, v45, v46, v47, v48, v49, v50], []⟩ w := by
  simp only [restP, bodyP, Tryd.f15, Option.getD_some]
  rw [hmn]
  obtain ⟨A, cp, rfl⟩ := hp.es.form
  have hc := cell_of_heap (i := 0) hp.var (v := .int .i64 st.cl) rfl
  have h0 : ((st.cl : Int) == 0) = false := by simp; exact hcl
  have HP := Lib.hid hp
  clear hp
  go_wp2_with (first | (refine wpList_load_block rfl 31 _ rfl p _ _ rfl HP.out.var (by kernel_rfl) (by kernel_rfl) ?_) | (refine wpList_store_block rfl 31 _ _ rfl res _ _ _ rfl rfl HP.out.hres rfl (by kernel_rfl) rfl ?_; intro w2 hw2))
  refine ⟨hw2.at_, HP.out.es.keep fun k cur t hl hk ht => hw2.other k ?_, hw2.below HP.out.lores⟩
  rintro rfl
  rw [HP.out.hres] at hk
  injection hk with hk
  injection hk with _ e _
  subst e
  rcases ht with ht | ht <;> exact absurd ht (by decide)
end Go.Proofs.YtbjkljmhhpoooaaDoor
