/- The disk: lists of sectors are copied. -/
import Derived.Test.YtppefblkmgihoaaDoorD3
set_option linter.unusedVariables false
set_option linter.unusedSimpArgs false
set_option maxRecDepth 10000
namespace Go.Proofs.YtppefblkmgihoaaDoor
open Go.Sh

/-- The room that lists may have, here. -/
abbrev small (n : Nat) : Prop := n < 2 ^ 36
theorem sec_one (l : List Sec) : ∀ u ∈ l.flatMap Sec.cells, u.oneCell' = true := by
  intro u hu
  obtain ⟨s, _, hs⟩ := List.mem_flatMap.1 hu
  simp only [Sec.cells, List.mem_append, List.mem_map, List.mem_singleton] at hs
  rcases hs with ⟨b, _, rfl⟩ | rfl <;> rfl
/-- A list of sectors that is one's own. -/
def OwS (N : Nat) (w : World) (l : List Sec) (v : Value) : Prop := (∀ s ∈ l, s.by_.length = 32) ∧ Ow N 82 33 w v l.length (l.flatMap Sec.cells)
theorem OwS.v {N : Nat} {w : World} {l : List Sec} {v : Value} (h : OwS N w l v) : SecV w l v := ⟨h.1, h.2.sl.mono fun _ _ _ => trivial⟩

theorem clone_sectors {w : World} {l : List Sec} {v : Value} (h : SecV w l v) (hl : small l.length) {R : Value → World → Prop}
    (hR : ∀ v' w', OwS w.heap.size w' l v' → Fr w.heap.size No w w' → R v' w') : cl Tryd.prog 41 #[v] w R := by
  obtain ⟨A, c, rfl, hnc⟩ := h.2.shape
  refine C.slices_Clone_disk_sector_disk_sector ?_
  unfold F.slices_Clone_disk_sector_disk_sector
  simp only [T.ty_75, T.bs_75_0, T.ap_75_75, bx_eq, mm_eq, nc_eq, cnd_eq, bcond_true, bcond_false, pk_eq, pk_int, ex_eq, ldc_some, un_not, un_neg, mn_eq, mx_eq, bin_add, bin_sub, bin_mul, bin_lss, bin_leq, bin_gtr, bin_geq, bin_eql, bin_neq, bin_peq, bin_pne, bin_beq, bin_bne, bin_leqn, bin_lnen, bin_seq, bin_sne, bin_sge, bin_slt, rdc_cells, mapEs_some, frz_none, Nat.zero_add, Nat.add_zero, List.getElem?_toArray, List.getElem?_cons_zero, List.getElem?_cons_succ, Option.isNone_some, Option.isNone_none, Bool.not_true, Bool.not_false, ite_true, ite_false, Bool.false_eq_true, true_and, and_true, forall_const, false_implies, reduceCtorEq, Bool.true_eq_false, Nat.reduceAdd, Nat.reduceMul, Nat.reduceLT, Nat.reduceSub, Int.reduceEq, Int.reduceLT, decide_true, decide_false, List.setIfInBounds_toArray, List.set_cons_zero, List.set_cons_succ, List.size_toArray, List.length_cons, List.length_nil, frz00, one_int, one_bool, one_ptr, one_str, one_slice, one_map, one_func, one_nil, one_niliface, size_put, size_alloc, put_same, st1_put, bsc_empty, List.nil_append, List.append_nil, List.map_cons, List.map_nil, cells_ptr, cells_str, cells_int, cells_bool, cells_slice, cells_agg, cells_map, fillB_one, fillB_nil, bdc, bcond_iff]
  refine ⟨fun hn => ?_, fun _ => ?_⟩
  · cases A with
    | some a => cases hn
    | none =>
      obtain ⟨h1, A, c', he, _, hlen, ⟨h0, _⟩ | ⟨b, o, X, f, hA, _⟩⟩ := h
      · have : l = [] := List.eq_nil_of_length_eq_zero h0
        subst this
        exact hR _ _ ⟨by simp, Ow.nil ..⟩ Fr.refl
      · injection he with e1 e2 e3; rw [← e1] at hA; cases hA
  · have hf : Fr w.heap.size No w (w.alloc (.cells #[] 82)) := Fr.refl.alloc (Nat.le_refl _)
    have hv := h.fr hf fun b X f hb => ⟨lt_at hb, no_not⟩
    rw [src_sl hv.2]
    have hO : Ow w.heap.size 82 33 (w.alloc (.cells #[] 82)) (.slice (some ⟨w.heap.size, 0, none⟩) 0 0) 0 [] := ⟨_, 0, rfl, Nat.le_refl _, by simp, .inr ⟨_, 0, _, rfl, Nat.le_refl _, alloc_at rfl, by simp, by simp⟩⟩
    have hlen := h.2.length
    have hl : l.length < 2 ^ 36 := hl
    refine ap_own hO rfl (by decide) hlen (sec_one l) (by rw [size_alloc]; omega) (by omega) (by omega) fun A' c' w' ho hfr => ?_
    rw [Nat.zero_add, List.nil_append] at ho
    rw [Nat.zero_add]
    exact hR _ _ ⟨h.1, ho⟩ (hf.then (hfr.fr (by rw [size_alloc]; omega)) (Nat.le_refl _) fun _ _ h => h)

def Sec.sync (s : Sec) : Sec := { s with sy := true }
theorem sync_cells {s : Sec} (h : s.by_.length = 32) : s.sync.cells = s.cells.set 32 (.bool true) := by
  simp only [Sec.cells, Sec.sync]
  rw [List.set_append_right _ _ (by simp [h])]
  simp [h]
theorem disk_synced {w : World} {l : List Sec} {v : Value} (h : SecV w l v) (hl : small l.length) {R : Value → World → Prop}
    (hR : ∀ v' w', OwS w.heap.size w' (l.map Sec.sync) v' → Fr w.heap.size No w w' → R v' w') : cl Tryd.prog 50 #[v] w R := by
  refine C.disk_synced ?_
  unfold F.disk_synced
  refine clone_sectors h hl fun v' w' ho hfr => ?_
  obtain ⟨A, c, rfl, hnc⟩ := ho.2.sl.shape
  simp only [T.ln_75, T.ia_75, T.fa_82_1, T.st_4, bx_eq, mm_eq, nc_eq, cnd_eq, bcond_true, bcond_false, pk_eq, pk_int, ex_eq, ldc_some, un_not, un_neg, mn_eq, mx_eq, bin_add, bin_sub, bin_mul, bin_lss, bin_leq, bin_gtr, bin_geq, bin_eql, bin_neq, bin_peq, bin_pne, bin_beq, bin_bne, bin_leqn, bin_lnen, bin_seq, bin_sne, bin_sge, bin_slt, rdc_cells, mapEs_some, frz_none, Nat.zero_add, Nat.add_zero, List.getElem?_toArray, List.getElem?_cons_zero, List.getElem?_cons_succ, Option.isNone_some, Option.isNone_none, Bool.not_true, Bool.not_false, ite_true, ite_false, Bool.false_eq_true, true_and, and_true, forall_const, false_implies, reduceCtorEq, Bool.true_eq_false, Nat.reduceAdd, Nat.reduceMul, Nat.reduceLT, Nat.reduceSub, Int.reduceEq, Int.reduceLT, decide_true, decide_false, List.setIfInBounds_toArray, List.set_cons_zero, List.set_cons_succ, List.size_toArray, List.length_cons, List.length_nil, frz00, one_int, one_bool, one_ptr, one_str, one_slice, one_map, one_func, one_nil, one_niliface, size_put, size_alloc, put_same, st1_put, bsc_empty, List.nil_append, List.append_nil, List.map_cons, List.map_nil, cells_ptr, cells_str, cells_int, cells_bool, cells_slice, cells_agg, cells_map, fillB_one, fillB_nil, bdc]
  have hl : l.length < 2 ^ 36 := hl
  refine ⟨fun s w2 => ∃ i : Nat, s = [.int .i64 i] ∧ i ≤ l.length ∧ OwS w.heap.size w2 ((l.take i).map Sec.sync ++ l.drop i) (.slice A l.length c) ∧ Fr w.heap.size No w w2, fun s _ => match s with | [.int _ i] => (l.length - i).toNat | _ => 0, ⟨0, rfl, Nat.zero_le _, by simpa using ho, hfr⟩, ?_⟩
  rintro g w2 ⟨i, hg, hi, hO, hf2⟩
  simp only [List.map_cons, List.map_nil, List.cons.injEq, and_true] at hg
  simp only [hg, T.ln_75, T.ia_75, T.fa_82_1, T.st_4, bx_eq, mm_eq, nc_eq, cnd_eq, bcond_true, bcond_false, pk_eq, pk_int, ex_eq, ldc_some, un_not, un_neg, mn_eq, mx_eq, bin_add, bin_sub, bin_mul, bin_lss, bin_leq, bin_gtr, bin_geq, bin_eql, bin_neq, bin_peq, bin_pne, bin_beq, bin_bne, bin_leqn, bin_lnen, bin_seq, bin_sne, bin_sge, bin_slt, rdc_cells, mapEs_some, frz_none, Nat.zero_add, Nat.add_zero, List.getElem?_toArray, List.getElem?_cons_zero, List.getElem?_cons_succ, Option.isNone_some, Option.isNone_none, Bool.not_true, Bool.not_false, ite_true, ite_false, Bool.false_eq_true, true_and, and_true, forall_const, false_implies, reduceCtorEq, Bool.true_eq_false, Nat.reduceAdd, Nat.reduceMul, Nat.reduceLT, Nat.reduceSub, Int.reduceEq, Int.reduceLT, decide_true, decide_false, List.setIfInBounds_toArray, List.set_cons_zero, List.set_cons_succ, List.size_toArray, List.length_cons, List.length_nil, frz00, one_int, one_bool, one_ptr, one_str, one_slice, one_map, one_func, one_nil, one_niliface, size_put, size_alloc, put_same, st1_put, bsc_empty, List.nil_append, List.append_nil, List.map_cons, List.map_nil, cells_ptr, cells_str, cells_int, cells_bool, cells_slice, cells_agg, cells_map, fillB_one, fillB_nil, bdc, bcond_dec]
  refine ⟨fun hlt => ?_, fun hge => ?_⟩
  · have hlt : i < l.length := by omega
    have hlen : ((l.take i).map Sec.sync ++ l.drop i).length = l.length := len_mid _ hi
    have hget : ((l.take i).map Sec.sync ++ l.drop i)[i]'(by omega) = l[i] := by
      have := get_mid Sec.sync hlt
      rw [List.getElem?_eq_getElem (by omega)] at this
      exact Option.some.inj this
    obtain ⟨hO1, hO2⟩ := hO
    rw [hlen] at hO2
    obtain ⟨b, o, c', he, hst⟩ := hO2.set1 (sec_len hO1) hlen.symm hlt (k := 32) (by decide) (l[i].sync) (.bool true) rfl (by rw [hget]; exact sync_cells (h.1 _ (List.getElem_mem _)))
    injection he with e1 e2 e3
    subst e1; subst e3
    simp only [T.ln_75, T.ia_75, T.fa_82_1, T.st_4, bx_eq, mm_eq, nc_eq, cnd_eq, bcond_true, bcond_false, pk_eq, pk_int, ex_eq, ldc_some, un_not, un_neg, mn_eq, mx_eq, bin_add, bin_sub, bin_mul, bin_lss, bin_leq, bin_gtr, bin_geq, bin_eql, bin_neq, bin_peq, bin_pne, bin_beq, bin_bne, bin_leqn, bin_lnen, bin_seq, bin_sne, bin_sge, bin_slt, rdc_cells, mapEs_some, frz_none, Nat.zero_add, Nat.add_zero, List.getElem?_toArray, List.getElem?_cons_zero, List.getElem?_cons_succ, Option.isNone_some, Option.isNone_none, Bool.not_true, Bool.not_false, ite_true, ite_false, Bool.false_eq_true, true_and, and_true, forall_const, false_implies, reduceCtorEq, Bool.true_eq_false, Nat.reduceAdd, Nat.reduceMul, Nat.reduceLT, Nat.reduceSub, Int.reduceEq, Int.reduceLT, decide_true, decide_false, List.setIfInBounds_toArray, List.set_cons_zero, List.set_cons_succ, List.size_toArray, List.length_cons, List.length_nil, frz00, one_int, one_bool, one_ptr, one_str, one_slice, one_map, one_func, one_nil, one_niliface, size_put, size_alloc, put_same, st1_put, bsc_empty, List.nil_append, List.append_nil, List.map_cons, List.map_nil, cells_ptr, cells_str, cells_int, cells_bool, cells_slice, cells_agg, cells_map, fillB_one, fillB_nil, bdc, Int.toNat_natCast]
    refine ⟨by omega, by omega, ?_⟩
    refine hst _ fun w3 hO3 hf3 hs3 => ?_
    rw [IntWalk.i64_in _ (by omega)]
    have e := set_mid Sec.sync hlt
    rw [e] at hO3
    refine ⟨⟨i + 1, by simp, by omega, ⟨?_, ?_⟩, hf2.trans hf3⟩, by omega⟩
    · intro s hs
      rcases List.mem_append.1 hs with hs | hs
      · obtain ⟨x, hx, rfl⟩ := List.mem_map.1 hs; exact h.1 x (List.mem_of_mem_take hx)
      · exact h.1 s (List.mem_of_mem_drop hs)
    · have : ((l.take (i + 1)).map Sec.sync ++ l.drop (i + 1)).length = l.length := len_mid _ hlt
      rw [this]; exact hO3
  · have : i = l.length := by omega
    subst this
    rw [List.take_length, List.drop_length, List.append_nil] at hO
    exact hR _ _ hO hf2
end Go.Proofs.YtppefblkmgihoaaDoor
