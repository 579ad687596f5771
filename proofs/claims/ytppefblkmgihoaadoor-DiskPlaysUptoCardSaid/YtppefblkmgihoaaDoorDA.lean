/- The disk: Read. -/
import Derived.Test.YtppefblkmgihoaaDoorD9
import Derived.Test.YtppefblkmgihoaaDoorLib
set_option linter.unusedVariables false
set_option linter.unusedSimpArgs false
set_option maxRecDepth 10000
namespace Go.Proofs.YtppefblkmgihoaaDoor
open Go.Sh

theorem ow_of_row {B e : Nat} {w : World} {v : Value} {n : Nat} {xs : List Value} (h : w.ownsRow B e 1 v n xs) : Ow B e 1 w v n xs := by
  obtain ⟨hl, ⟨rfl, rfl⟩ | ⟨g, cap, cur, rfl, hB, hg, hn, hc, hs, ht⟩⟩ := h
  · have : xs = [] := List.eq_nil_of_length_eq_zero (by simpa using hl)
    subst this
    exact Ow.nil ..
  · refine ⟨_, cap, rfl, hn, hl, .inr ⟨g, 0, cur, rfl, hB, hg, by omega, fun k hk => ?_⟩⟩
    rw [Nat.zero_add, ← ht, List.getElem?_take, if_pos hk]; simp
theorem buffer_young {T e B b : Nat} {bs : List Value} {w w' : World} (h : Lib.IsBuffer T e B b bs w) (hf : Fr w.heap.size No w w') : Lib.IsBuffer T e B b bs w' := by
  obtain ⟨hB, v, lr, hb, ⟨hl, hr⟩, hv⟩ := h
  refine ⟨hB, v, lr, young_at hf hb, ⟨hl, ?_⟩, hv⟩
  rcases hr with hr | ⟨g, cap, cur, e1, e2, e3, e4⟩
  · exact .inl hr
  · exact .inr ⟨g, cap, cur, e1, e2, young_at hf e3, e4⟩
theorem fr_below {B : Nat} {w w' : World} (h : RowKit.Below B w w') : Fr B No w w' := ⟨h.size, fun b hb _ => h.block b hb, h.os, h.tape, h.output⟩
theorem drewN_heap (w : World) : ∀ n, (w.drewN n).heap = w.heap := by
  intro n
  induction n with
  | zero => rfl
  | succ n ih => first | exact ih | rfl
theorem fr_drewN {N : Nat} {S : Nat → Prop} {w u : World} (h : Fr N S w u) : ∀ n, Fr N S w (u.drewN n) := by
  intro n
  induction n with
  | zero => exact h
  | succ n ih => exact ih

theorem SecV.row {w : World} {l : List Sec} {v : Value} (h : SecV w l v) {i : Nat} (hi : i < l.length) : ∃ b o c, v = .slice (some ⟨b, o, none⟩) l.length c ∧ rdn w.heap[b]? (o + i * 33) 33 = some (l[i]).cells.toArray := by
  obtain ⟨b, o, c, X, f, e, _, hb, hs, hX⟩ := h.2.at hi
  refine ⟨b, o, c, e, ?_⟩
  rw [rdn_el hb hs hX h.2.length hi, flat_row Sec.cells l (sec_len h.1) i hi]
theorem bytes_succ {l : List Sec} {i : Nat} (hi : i < l.length) : Secs.bytes (l.take (i + 1)) = Secs.bytes (l.take i) ++ (l[i]).by_ := by
  rw [List.take_succ_eq_append_getElem hi, bytes_app]; simp [Secs.bytes]
theorem bytes_le (l : List Sec) (h : ∀ s ∈ l, s.by_.length = 32) (i : Nat) : (Secs.bytes (l.take i)).length ≤ 32 * l.length := by
  rw [bytes_take h, List.length_take, bytes_len h]; omega
def Dk.read (D : Dk) (a : ByteArray) : List UInt8 × Int := if D.check a true ≠ 0 then ([], D.check a true) else (Secs.bytes (D.fs.at a), 0)
theorem disk_Read {w : World} {d : Nat} {D : Dk} {a : ByteArray} (h : IsDk w d D) (ha : a.size < 2 ^ 62) (hg : D.good) {R : Value → World → Prop}
    (hR : ∀ w' v, Fr w.heap.size No w w' → OwB w.heap.size w' (D.read a).1 v → R (.tuple #[v, .int .i64 (D.read a).2]) w') : cl Tryd.prog 14 #[ptr d, .string a] w R := by
  refine C.disk_Disk_Read ?_
  unfold F.disk_Disk_Read
  refine disk_check h ha ?_
  obtain ⟨hv, es, c, h⟩ := h
  simp only [T.al_88, T.fa_49_0, T.ld_47, T.lk_47, T.ln_75, T.ia_75, T.ld_82, T.al_82, T.st_82, T.fa_82_0, T.sl_80, bx_eq, mm_eq, nc_eq, cnd_eq, bcond_true, bcond_false, pk_eq, pk_int, ex_eq, ldc_some, un_not, un_neg, mn_eq, mx_eq, bin_add, bin_sub, bin_mul, bin_lss, bin_leq, bin_gtr, bin_geq, bin_eql, bin_neq, bin_peq, bin_pne, bin_beq, bin_bne, bin_leqn, bin_lnen, bin_seq, bin_sne, bin_sge, bin_slt, rdc_cells, mapEs_some, frz_none, Nat.zero_add, Nat.add_zero, List.getElem?_toArray, List.getElem?_cons_zero, List.getElem?_cons_succ, Option.isNone_some, Option.isNone_none, Bool.not_true, Bool.not_false, ite_true, ite_false, Bool.false_eq_true, true_and, and_true, forall_const, false_implies, reduceCtorEq, Bool.true_eq_false, Nat.reduceAdd, Nat.reduceMul, Nat.reduceLT, Nat.reduceSub, Int.reduceEq, Int.reduceLT, decide_true, decide_false, List.setIfInBounds_toArray, List.set_cons_zero, List.set_cons_succ, List.size_toArray, List.length_cons, List.length_nil, frz00, one_int, one_bool, one_ptr, one_str, one_slice, one_map, one_func, one_nil, one_niliface, size_put, size_alloc, put_same, st1_put, bsc_empty, List.nil_append, List.append_nil, List.map_cons, List.map_nil, cells_ptr, cells_str, cells_int, cells_bool, cells_slice, cells_agg, cells_map, fillB_one, fillB_nil, bdc, h.blk, ptr]
  rw [bcond_ndec]
  unfold Dk.read at hR
  refine ⟨fun he => ?_, fun he => ?_⟩
  · rw [if_pos he] at hR
    exact hR w _ Fr.refl (Ow.nil ..)
  rw [if_neg (by simpa using he)] at hR
  generalize hw1 : w.alloc (.cells #[.slice none 0 0, .int .i64 0, .int .i8 0] 88) = w1
  have hf1 : Fr w.heap.size No w w1 := by rw [← hw1]; exact Fr.refl.alloc (Nat.le_refl _)
  have hbuf : Lib.IsBuffer 88 5 w.heap.size w.heap.size [] w1 := by rw [← hw1]; exact Lib.fresh_isBuffer _ _ w
  have h1 := h.young hf1
  simp only [h1.blk, h1.map, bx_eq, mm_eq, nc_eq, cnd_eq, bcond_true, bcond_false, pk_eq, pk_int, ex_eq, ldc_some, un_not, un_neg, mn_eq, mx_eq, bin_add, bin_sub, bin_mul, bin_lss, bin_leq, bin_gtr, bin_geq, bin_eql, bin_neq, bin_peq, bin_pne, bin_beq, bin_bne, bin_leqn, bin_lnen, bin_seq, bin_sne, bin_sge, bin_slt, rdc_cells, mapEs_some, frz_none, Nat.zero_add, Nat.add_zero, List.getElem?_toArray, List.getElem?_cons_zero, List.getElem?_cons_succ, Option.isNone_some, Option.isNone_none, Bool.not_true, Bool.not_false, ite_true, ite_false, Bool.false_eq_true, true_and, and_true, forall_const, false_implies, reduceCtorEq, Bool.true_eq_false, Nat.reduceAdd, Nat.reduceMul, Nat.reduceLT, Nat.reduceSub, Int.reduceEq, Int.reduceLT, decide_true, decide_false, List.setIfInBounds_toArray, List.set_cons_zero, List.set_cons_succ, List.size_toArray, List.length_cons, List.length_nil, frz00, one_int, one_bool, one_ptr, one_str, one_slice, one_map, one_func, one_nil, one_niliface, size_put, size_alloc, put_same, st1_put, bsc_empty, List.nil_append, List.append_nil, List.map_cons, List.map_nil, cells_ptr, cells_str, cells_int, cells_bool, cells_slice, cells_agg, cells_map, fillB_one, fillB_nil, bdc]
  obtain ⟨v, hv1, hv2⟩ := h.look a
  refine hv2 _ ?_
  obtain ⟨A, k, rfl, hk⟩ := hv1.2.shape
  have hlen : (D.fs.at a).length < 2 ^ 36 := Files.at_small hg.ok a
  generalize hl : D.fs.at a = l at hv1 hR hk hlen ⊢
  simp only [T.al_88, T.fa_49_0, T.ld_47, T.lk_47, T.ln_75, T.ia_75, T.ld_82, T.al_82, T.st_82, T.fa_82_0, T.sl_80, bx_eq, mm_eq, nc_eq, cnd_eq, bcond_true, bcond_false, pk_eq, pk_int, ex_eq, ldc_some, un_not, un_neg, mn_eq, mx_eq, bin_add, bin_sub, bin_mul, bin_lss, bin_leq, bin_gtr, bin_geq, bin_eql, bin_neq, bin_peq, bin_pne, bin_beq, bin_bne, bin_leqn, bin_lnen, bin_seq, bin_sne, bin_sge, bin_slt, rdc_cells, mapEs_some, frz_none, Nat.zero_add, Nat.add_zero, List.getElem?_toArray, List.getElem?_cons_zero, List.getElem?_cons_succ, Option.isNone_some, Option.isNone_none, Bool.not_true, Bool.not_false, ite_true, ite_false, Bool.false_eq_true, true_and, and_true, forall_const, false_implies, reduceCtorEq, Bool.true_eq_false, Nat.reduceAdd, Nat.reduceMul, Nat.reduceLT, Nat.reduceSub, Int.reduceEq, Int.reduceLT, decide_true, decide_false, List.setIfInBounds_toArray, List.set_cons_zero, List.set_cons_succ, List.size_toArray, List.length_cons, List.length_nil, frz00, one_int, one_bool, one_ptr, one_str, one_slice, one_map, one_func, one_nil, one_niliface, size_put, size_alloc, put_same, st1_put, bsc_empty, List.nil_append, List.append_nil, List.map_cons, List.map_nil, cells_ptr, cells_str, cells_int, cells_bool, cells_slice, cells_agg, cells_map, fillB_one, fillB_nil, bdc]
  refine ⟨fun s u => ∃ i : Nat, s = [.int .i64 i] ∧ i ≤ l.length ∧ Fr w.heap.size No w u ∧ Lib.IsBuffer 88 5 w.heap.size w.heap.size ((Secs.bytes (l.take i)).map fun b => Value.int .u8 b.toNat) u, fun s _ => match s with | [.int _ i] => (l.length - i).toNat | _ => 0, ⟨0, rfl, Nat.zero_le _, hf1, hbuf⟩, ?_⟩
  rintro g u ⟨i, hg1, hi, hf, hb⟩
  have hvu : SecV u l (.slice A l.length k) := hv1.young hf
  simp only [List.map_cons, List.map_nil, List.cons.injEq, and_true] at hg1
  simp only [hg1, T.al_88, T.fa_49_0, T.ld_47, T.lk_47, T.ln_75, T.ia_75, T.ld_82, T.al_82, T.st_82, T.fa_82_0, T.sl_80, bx_eq, mm_eq, nc_eq, cnd_eq, bcond_true, bcond_false, pk_eq, pk_int, ex_eq, ldc_some, un_not, un_neg, mn_eq, mx_eq, bin_add, bin_sub, bin_mul, bin_lss, bin_leq, bin_gtr, bin_geq, bin_eql, bin_neq, bin_peq, bin_pne, bin_beq, bin_bne, bin_leqn, bin_lnen, bin_seq, bin_sne, bin_sge, bin_slt, rdc_cells, mapEs_some, frz_none, Nat.zero_add, Nat.add_zero, List.getElem?_toArray, List.getElem?_cons_zero, List.getElem?_cons_succ, Option.isNone_some, Option.isNone_none, Bool.not_true, Bool.not_false, ite_true, ite_false, Bool.false_eq_true, true_and, and_true, forall_const, false_implies, reduceCtorEq, Bool.true_eq_false, Nat.reduceAdd, Nat.reduceMul, Nat.reduceLT, Nat.reduceSub, Int.reduceEq, Int.reduceLT, decide_true, decide_false, List.setIfInBounds_toArray, List.set_cons_zero, List.set_cons_succ, List.size_toArray, List.length_cons, List.length_nil, frz00, one_int, one_bool, one_ptr, one_str, one_slice, one_map, one_func, one_nil, one_niliface, size_put, size_alloc, put_same, st1_put, bsc_empty, List.nil_append, List.append_nil, List.map_cons, List.map_nil, cells_ptr, cells_str, cells_int, cells_bool, cells_slice, cells_agg, cells_map, fillB_one, fillB_nil, bdc]
  rw [bcond_dec]
  refine ⟨fun hlt => ?_, fun hge => ?_⟩
  · have hlt : i < l.length := by omega
    obtain ⟨b, o, c', he, hrd⟩ := hvu.row hlt
    injection he with e1 e2 e3
    subst e1
    have h32 : (l[i]).by_.length = 32 := hvu.1 _ (List.getElem_mem _)
    have hcl : (l[i]).cells.length = 33 := by simp [Sec.cells, h32]
    simp only [T.al_88, T.fa_49_0, T.ld_47, T.lk_47, T.ln_75, T.ia_75, T.ld_82, T.al_82, T.st_82, T.fa_82_0, T.sl_80, bx_eq, mm_eq, nc_eq, cnd_eq, bcond_true, bcond_false, pk_eq, pk_int, ex_eq, ldc_some, un_not, un_neg, mn_eq, mx_eq, bin_add, bin_sub, bin_mul, bin_lss, bin_leq, bin_gtr, bin_geq, bin_eql, bin_neq, bin_peq, bin_pne, bin_beq, bin_bne, bin_leqn, bin_lnen, bin_seq, bin_sne, bin_sge, bin_slt, rdc_cells, mapEs_some, frz_none, Nat.zero_add, Nat.add_zero, List.getElem?_toArray, List.getElem?_cons_zero, List.getElem?_cons_succ, Option.isNone_some, Option.isNone_none, Bool.not_true, Bool.not_false, ite_true, ite_false, Bool.false_eq_true, true_and, and_true, forall_const, false_implies, reduceCtorEq, Bool.true_eq_false, Nat.reduceAdd, Nat.reduceMul, Nat.reduceLT, Nat.reduceSub, Int.reduceEq, Int.reduceLT, decide_true, decide_false, List.setIfInBounds_toArray, List.set_cons_zero, List.set_cons_succ, List.size_toArray, List.length_cons, List.length_nil, frz00, one_int, one_bool, one_ptr, one_str, one_slice, one_map, one_func, one_nil, one_niliface, size_put, size_alloc, put_same, st1_put, bsc_empty, List.nil_append, List.append_nil, List.map_cons, List.map_nil, cells_ptr, cells_str, cells_int, cells_bool, cells_slice, cells_agg, cells_map, fillB_one, fillB_nil, bdc, Int.toNat_natCast, hrd, ldn]
    refine ⟨by omega, by omega, ?_⟩
    refine stN_new rfl (by simpa using hcl) (by
      intro q hq
      exact sec_one [l[i]] q (by simpa using hq)) ?_
    generalize hu2 : u.alloc (.cells (l[i]).cells.toArray 82 (0, 0)) = u2
    have hfu : Fr u.heap.size No u u2 := by rw [← hu2]; exact Fr.refl.alloc (Nat.le_refl _)
    have hat : u2.heap[u.heap.size]? = some (.cells (l[i]).cells.toArray 82 (0, 0)) := by rw [← hu2]; exact alloc_at rfl
    have hf2 : Fr w.heap.size No w u2 := hf.trans (hfu.no hf.1)
    simp only [T.al_88, T.fa_49_0, T.ld_47, T.lk_47, T.ln_75, T.ia_75, T.ld_82, T.al_82, T.st_82, T.fa_82_0, T.sl_80, slc_all]
    rw [if_neg (by decide)]
    simp only [add_mk, Nat.zero_mul, Nat.add_zero, Nat.sub_zero]
    have hb2 := buffer_young hb hfu
    have hcall := Tryd.Buffer_Write_any w.heap.size w.heap.size ((Secs.bytes (l.take i)).map fun b => Value.int .u8 b.toNat) ((l[i]).by_.map fun b => Value.int .u8 b.toNat) ⟨u.heap.size, 0, none⟩ 32 32 u2 hb2 hf2.1 (byte_one _) (by simpa using h32) (by have := hb2.lt; have := hb.lt; show u.heap.size ≠ w.heap.size; omega) (by
      intro j q hj
      rw [add_mk, Nat.zero_add, cell_rdc, hat, rdc_cells]
      have hj2 : j < (l[i]).by_.length := by
        rcases Nat.lt_or_ge j (l[i]).by_.length with h | h
        · exact h
        · rw [List.getElem?_eq_none (by simpa using h)] at hj; cases hj
      simp only [Sec.cells, List.getElem?_toArray]
      rw [List.getElem?_append_left (by simpa using hj2)]; exact hj) (byte_one _) (by have := bytes_le l hvu.1 i; rw [List.length_map]; omega)
    refine Calls.mono hcall ?_
    rintro e u3 ⟨rfl, hb3, hbel, hoth⟩
    refine ⟨_, rfl, ?_⟩
    have hf3 : Fr w.heap.size No w u3 := hf2.trans (fr_below hbel)
    rw [IntWalk.i64_in _ (by omega)]
    refine ⟨⟨i + 1, rfl, by omega, hf3, ?_⟩, by omega⟩
    rw [bytes_succ hlt, List.map_append]; exact hb3
  · have : i = l.length := by omega
    subst this
    rw [List.take_length] at hb
    refine Calls.mono (Tryd.Buffer_Bytes _ _ _ _ hb) ?_
    rintro e u3 ⟨v, rfl, hrow, n, rfl⟩
    refine ⟨_, rfl, ?_⟩
    have ho := ow_of_row hrow
    refine hR _ v (fr_drewN hf _) ?_
    show Ow _ _ _ _ _ _ _
    rw [List.length_map] at ho
    exact ho
theorem disk_Read_nil {w : World} {a : ByteArray} (ha : a.size < 2 ^ 62) {R : Value → World → Prop}
    (hR : R (.tuple #[.slice none 0 0, .int .i64 (if isName a = false then 1 else 7)]) w) : cl Tryd.prog 14 #[.pointer none, .string a] w R := by
  refine C.disk_Disk_Read ?_
  unfold F.disk_Disk_Read
  refine disk_check_nil ha ?_
  simp only [T.al_88, T.fa_49_0, T.ld_47, T.lk_47, T.ln_75, T.ia_75, T.ld_82, T.al_82, T.st_82, T.fa_82_0, T.sl_80, bx_eq, mm_eq, nc_eq, cnd_eq, bcond_true, bcond_false, pk_eq, pk_int, ex_eq, ldc_some, un_not, un_neg, mn_eq, mx_eq, bin_add, bin_sub, bin_mul, bin_lss, bin_leq, bin_gtr, bin_geq, bin_eql, bin_neq, bin_peq, bin_pne, bin_beq, bin_bne, bin_leqn, bin_lnen, bin_seq, bin_sne, bin_sge, bin_slt, rdc_cells, mapEs_some, frz_none, Nat.zero_add, Nat.add_zero, List.getElem?_toArray, List.getElem?_cons_zero, List.getElem?_cons_succ, Option.isNone_some, Option.isNone_none, Bool.not_true, Bool.not_false, ite_true, ite_false, Bool.false_eq_true, true_and, and_true, forall_const, false_implies, reduceCtorEq, Bool.true_eq_false, Nat.reduceAdd, Nat.reduceMul, Nat.reduceLT, Nat.reduceSub, Int.reduceEq, Int.reduceLT, decide_true, decide_false, List.setIfInBounds_toArray, List.set_cons_zero, List.set_cons_succ, List.size_toArray, List.length_cons, List.length_nil, frz00, one_int, one_bool, one_ptr, one_str, one_slice, one_map, one_func, one_nil, one_niliface, size_put, size_alloc, put_same, st1_put, bsc_empty, List.nil_append, List.append_nil, List.map_cons, List.map_nil, cells_ptr, cells_str, cells_int, cells_bool, cells_slice, cells_agg, cells_map, fillB_one, fillB_nil, bdc]
  rw [bcond_ndec]
  refine ⟨fun he => hR, fun he => ?_⟩
  split at he <;> cases he
end Go.Proofs.YtppefblkmgihoaaDoor
