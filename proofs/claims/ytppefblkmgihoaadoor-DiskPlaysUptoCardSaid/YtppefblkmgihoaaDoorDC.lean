/- The disk: Names. -/
import Derived.Test.YtppefblkmgihoaaDoorDB
set_option linter.unusedVariables false
set_option linter.unusedSimpArgs false
set_option maxRecDepth 10000
namespace Go.Proofs.YtppefblkmgihoaaDoor
open Go.Sh

/-- In order, each once. -/
def inOrder (ys : List ByteArray) : Prop := ys.Pairwise fun a b => slt a b = true
theorem order_of {ys : List ByteArray} (h : ys.Pairwise fun a b => slt b a = false) (hn : ys.Nodup) : inOrder ys := by
  refine (h.and hn).imp fun {a b} hab => ?_
  cases hs : slt a b with
  | true => rfl
  | false => exact absurd (slt_total hs hab.1) hab.2
/-- Two lists in order that have the same names are alike. -/
theorem order_uniq : ∀ {xs ys : List ByteArray}, inOrder xs → inOrder ys → xs.Perm ys → xs = ys := by
  intro xs ys hx hy hp
  refine List.Perm.eq_of_pairwise (le := fun a b => slt a b = true) (fun a b _ _ h1 h2 => ?_) hx hy hp
  have := slt_trans h1 h2
  rw [slt_irrefl] at this; cases this

theorem disk_Names {w : World} {d : Nat} {D : Dk} (h : IsDk w d D) (hl : small D.fs.length) {R : Value → World → Prop}
    (h0 : D.off = true → R (.slice none 0 0) w)
    (h1 : D.off = false → ∀ w' v ys, ys.Perm (D.fs.map (·.1)) → inOrder ys → OwN w.heap.size w' ys v → Fr w.heap.size No w w' → R v w') : cl Tryd.prog 33 #[ptr d] w R := by
  obtain ⟨hv, es, c, h⟩ := h
  refine C.disk_Disk_Names ?_
  unfold F.disk_Disk_Names
  simp only [T.ty_24, T.fa_49_2, T.ld_4, T.fa_49_0, T.ld_47, bx_eq, mm_eq, nc_eq, cnd_eq, bcond_true, bcond_false, pk_eq, pk_int, ex_eq, ldc_some, un_not, un_neg, mn_eq, mx_eq, bin_add, bin_sub, bin_mul, bin_lss, bin_leq, bin_gtr, bin_geq, bin_eql, bin_neq, bin_peq, bin_pne, bin_beq, bin_bne, bin_leqn, bin_lnen, bin_seq, bin_sne, bin_sge, bin_slt, rdc_cells, mapEs_some, frz_none, Nat.zero_add, Nat.add_zero, List.getElem?_toArray, List.getElem?_cons_zero, List.getElem?_cons_succ, Option.isNone_some, Option.isNone_none, Bool.not_true, Bool.not_false, ite_true, ite_false, Bool.false_eq_true, true_and, and_true, forall_const, false_implies, reduceCtorEq, Bool.true_eq_false, Nat.reduceAdd, Nat.reduceMul, Nat.reduceLT, Nat.reduceSub, Int.reduceEq, Int.reduceLT, decide_true, decide_false, List.setIfInBounds_toArray, List.set_cons_zero, List.set_cons_succ, List.size_toArray, List.length_cons, List.length_nil, frz00, one_int, one_bool, one_ptr, one_str, one_slice, one_map, one_func, one_nil, one_niliface, size_put, size_alloc, put_same, st1_put, bsc_empty, List.nil_append, List.append_nil, List.map_cons, List.map_nil, cells_ptr, cells_str, cells_int, cells_bool, cells_slice, cells_agg, cells_map, fillB_one, fillB_nil, bdc, h.blk, ptr, bcond_iff]
  refine ⟨h0, fun ho => ?_⟩
  have h1 := h1 ho
  refine C.maps_Keys_mapstring_disk_sector_string_disk_sector ?_
  unfold F.maps_Keys_mapstring_disk_sector_string_disk_sector
  simp only [bx_eq, cells_map]
  generalize hw1 : w.alloc (.cells #[.map (some D.m)] 47) = w1
  have hf1 : Fr w.heap.size No w w1 := by rw [← hw1]; exact Fr.refl.alloc (Nat.le_refl _)
  have hat : w1.heap[w.heap.size]? = some (.cells #[.map (some D.m)] 47 (0, 0)) := by rw [← hw1]; exact alloc_at rfl
  refine C.slices_Sorted_string ?_
  unfold F.slices_Sorted_string
  refine C.slices_Collect_string ?_
  unfold F.slices_Collect_string
  refine collect_keys h.mp hat (young_at hf1 h.map) hl fun w2 v xs hperm hO hf2 => ?_
  have hxl : xs.length = D.fs.length := by rw [hperm.length_eq, List.length_map]
  have hf12 : Fr w.heap.size No w w2 := hf1.trans (hf2.no hf1.1)
  refine sort_names (Ow.mono hO hf1.1) (by unfold small at *; omega) fun w3 ys hys hso hO3 hf3 => ?_
  have hnd : ys.Nodup := (hys.trans hperm).nodup_iff.2 h.mp.nodup
  exact h1 w3 v ys (hys.trans hperm) (order_of hso hnd) hO3 (hf12.trans (hf3 hf12.1))
theorem disk_Names_nil {w : World} {R : Value → World → Prop} (hR : R (.slice none 0 0) w) : cl Tryd.prog 33 #[.pointer none] w R := by
  refine C.disk_Disk_Names ?_
  unfold F.disk_Disk_Names
  simp only [T.ty_24, T.fa_49_2, T.ld_4, T.fa_49_0, T.ld_47, bx_eq, mm_eq, nc_eq, cnd_eq, bcond_true, bcond_false, pk_eq, pk_int, ex_eq, ldc_some, un_not, un_neg, mn_eq, mx_eq, bin_add, bin_sub, bin_mul, bin_lss, bin_leq, bin_gtr, bin_geq, bin_eql, bin_neq, bin_peq, bin_pne, bin_beq, bin_bne, bin_leqn, bin_lnen, bin_seq, bin_sne, bin_sge, bin_slt, rdc_cells, mapEs_some, frz_none, Nat.zero_add, Nat.add_zero, List.getElem?_toArray, List.getElem?_cons_zero, List.getElem?_cons_succ, Option.isNone_some, Option.isNone_none, Bool.not_true, Bool.not_false, ite_true, ite_false, Bool.false_eq_true, true_and, and_true, forall_const, false_implies, reduceCtorEq, Bool.true_eq_false, Nat.reduceAdd, Nat.reduceMul, Nat.reduceLT, Nat.reduceSub, Int.reduceEq, Int.reduceLT, decide_true, decide_false, List.setIfInBounds_toArray, List.set_cons_zero, List.set_cons_succ, List.size_toArray, List.length_cons, List.length_nil, frz00, one_int, one_bool, one_ptr, one_str, one_slice, one_map, one_func, one_nil, one_niliface, size_put, size_alloc, put_same, st1_put, bsc_empty, List.nil_append, List.append_nil, List.map_cons, List.map_nil, cells_ptr, cells_str, cells_int, cells_bool, cells_slice, cells_agg, cells_map, fillB_one, fillB_nil, bdc]
  exact hR
end Go.Proofs.YtppefblkmgihoaaDoor
