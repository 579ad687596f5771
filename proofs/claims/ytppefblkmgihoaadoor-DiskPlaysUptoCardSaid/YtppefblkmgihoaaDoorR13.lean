/- The reference of layer 9: the calls; fate. -/
import Derived.Test.YtppefblkmgihoaaDoorR12
set_option linter.unusedVariables false
set_option linter.unusedSimpArgs false
set_option maxRecDepth 10000
namespace Go.Proofs.YtppefblkmgihoaaDoor
open Go.Sh

def Rk.ask (X : Rk) (p : Pend) (bad : Bool) : Int × Rk := if bad then (1, X) else X.operate p
theorem ref_ask {N : Nat} {w : World} {x : Nat} {X : Rk} {op n : Int} {a b : ByteArray} {p : Pend} (h : IsRk N w x X) (hg : X.good) (ha : a.size < 2 ^ 62) (hb : b.size < 2 ^ 62) (hp : badArgs op a b n = false → p.op = op ∧ p.fst = a ∧ p.snd = b ∧ (p.num : Int) = n ∧ p.num < 2 ^ 63) {R : Value → World → Prop}
    (hR : ∀ w', IsRk N w' x (X.ask p (badArgs op a b n)).2 → Fr w.heap.size (fun b => b = x) w w' → R (.int .i64 (X.ask p (badArgs op a b n)).1) w') : cl Tryd.prog 51 #[ptr x, .int .i64 op, .string a, .string b, .int .i64 n] w R := by
  obtain ⟨fv, h⟩ := h
  unfold Rk.ask at hR
  refine ref_operate (N := N) ha hb (fun hbad w' hf => ?_) (fun hbad => .inr ?_)
  · rw [hbad] at hR; exact hR w' ⟨fv, h.young hf⟩ (hf.no (Nat.le_refl _))
  · obtain ⟨h1, h2, h3, h4, h5⟩ := hp hbad
    rw [hbad] at hR
    exact ⟨x, X, fv, p, rfl, h, hg, h1, h2, h3, h4, h5, hR⟩
theorem ref_ask_nil {w : World} {op n : Int} {a b : ByteArray} (ha : a.size < 2 ^ 62) (hb : b.size < 2 ^ 62) {R : Value → World → Prop}
    (hR : ∀ w', Fr w.heap.size No w w' → R (.int .i64 (if badArgs op a b n then 1 else 7)) w') : cl Tryd.prog 51 #[.pointer none, .int .i64 op, .string a, .string b, .int .i64 n] w R := by
  refine ref_operate (N := 0) ha hb (fun hbad w' hf => ?_) (fun hbad => .inl ⟨rfl, fun w' hf => ?_⟩)
  · have := hR w' hf; rw [hbad] at this; exact this
  · have := hR w' hf; rw [hbad] at this; exact this
theorem emp_size : (⟨#[]⟩ : ByteArray).size < 2 ^ 62 := by show 0 < 2 ^ 62; omega
theorem nought_small : (0 : Nat) < 2 ^ 63 := by omega
theorem ref_Sync {N : Nat} {w : World} {x : Nat} {X : Rk} {a : ByteArray} (h : IsRk N w x X) (hg : X.good) (ha : a.size < 2 ^ 62) {R : Value → World → Prop}
    (hR : ∀ w', IsRk N w' x (X.ask (.sync a) (badArgs 1 a ⟨#[]⟩ 0)).2 → Fr w.heap.size (fun b => b = x) w w' → R (.int .i64 (X.ask (.sync a) (badArgs 1 a ⟨#[]⟩ 0)).1) w') : cl Tryd.prog 19 #[ptr x, .string a] w R := by
  refine C.r09_DocSync ?_
  unfold F.r09_DocSync
  exact ref_ask (p := .sync a) h hg ha emp_size (fun _ => ⟨rfl, rfl, rfl, rfl, nought_small⟩) hR
theorem ref_Sync_nil {w : World} {a : ByteArray} (ha : a.size < 2 ^ 62) {R : Value → World → Prop}
    (hR : ∀ w', Fr w.heap.size No w w' → R (.int .i64 (if badArgs 1 a ⟨#[]⟩ 0 then 1 else 7)) w') : cl Tryd.prog 19 #[.pointer none, .string a] w R := by
  refine C.r09_DocSync ?_
  unfold F.r09_DocSync
  exact ref_ask_nil ha emp_size hR
theorem ref_Remove {N : Nat} {w : World} {x : Nat} {X : Rk} {a : ByteArray} (h : IsRk N w x X) (hg : X.good) (ha : a.size < 2 ^ 62) {R : Value → World → Prop}
    (hR : ∀ w', IsRk N w' x (X.ask (.rem a) (badArgs 4 a ⟨#[]⟩ 0)).2 → Fr w.heap.size (fun b => b = x) w w' → R (.int .i64 (X.ask (.rem a) (badArgs 4 a ⟨#[]⟩ 0)).1) w') : cl Tryd.prog 25 #[ptr x, .string a] w R := by
  refine C.r09_DocRemove ?_
  unfold F.r09_DocRemove
  exact ref_ask (p := .rem a) h hg ha emp_size (fun _ => ⟨rfl, rfl, rfl, rfl, nought_small⟩) hR
theorem ref_Remove_nil {w : World} {a : ByteArray} (ha : a.size < 2 ^ 62) {R : Value → World → Prop}
    (hR : ∀ w', Fr w.heap.size No w w' → R (.int .i64 (if badArgs 4 a ⟨#[]⟩ 0 then 1 else 7)) w') : cl Tryd.prog 25 #[.pointer none, .string a] w R := by
  refine C.r09_DocRemove ?_
  unfold F.r09_DocRemove
  exact ref_ask_nil ha emp_size hR
theorem ref_Truncate {N : Nat} {w : World} {x : Nat} {X : Rk} {a : ByteArray} {n : Int} (h : IsRk N w x X) (hg : X.good) (ha : a.size < 2 ^ 62) (hn : n < 2 ^ 63) {R : Value → World → Prop}
    (hR : ∀ w', IsRk N w' x (X.ask (.trunc a n.toNat) (badArgs 2 a ⟨#[]⟩ n)).2 → Fr w.heap.size (fun b => b = x) w w' → R (.int .i64 (X.ask (.trunc a n.toNat) (badArgs 2 a ⟨#[]⟩ n)).1) w') : cl Tryd.prog 21 #[ptr x, .string a, .int .i64 n] w R := by
  refine C.r09_DocTruncate ?_
  unfold F.r09_DocTruncate
  refine ref_ask (p := .trunc a n.toNat) h hg ha emp_size (fun hb => ?_) hR
  have h0 : 0 ≤ n := by
    simp only [badArgs, Bool.or_eq_false_iff] at hb
    have := hb.2
    simpa using this
  exact ⟨rfl, rfl, rfl, by simp only [Pend.num]; omega, by simp only [Pend.num]; omega⟩
theorem ref_Truncate_nil {w : World} {a : ByteArray} {n : Int} (ha : a.size < 2 ^ 62) {R : Value → World → Prop}
    (hR : ∀ w', Fr w.heap.size No w w' → R (.int .i64 (if badArgs 2 a ⟨#[]⟩ n then 1 else 7)) w') : cl Tryd.prog 21 #[.pointer none, .string a, .int .i64 n] w R := by
  refine C.r09_DocTruncate ?_
  unfold F.r09_DocTruncate
  exact ref_ask_nil ha emp_size hR
theorem ref_Rename {N : Nat} {w : World} {x : Nat} {X : Rk} {a b : ByteArray} (h : IsRk N w x X) (hg : X.good) (ha : a.size < 2 ^ 62) (hb : b.size < 2 ^ 62) {R : Value → World → Prop}
    (hR : ∀ w', IsRk N w' x (X.ask (.ren a b) (badArgs 3 a b 0)).2 → Fr w.heap.size (fun b => b = x) w w' → R (.int .i64 (X.ask (.ren a b) (badArgs 3 a b 0)).1) w') : cl Tryd.prog 23 #[ptr x, .string a, .string b] w R := by
  refine C.r09_DocRename ?_
  unfold F.r09_DocRename
  exact ref_ask (p := .ren a b) h hg ha hb (fun _ => ⟨rfl, rfl, rfl, rfl, nought_small⟩) hR
theorem ref_Rename_nil {w : World} {a b : ByteArray} (ha : a.size < 2 ^ 62) (hb : b.size < 2 ^ 62) {R : Value → World → Prop}
    (hR : ∀ w', Fr w.heap.size No w w' → R (.int .i64 (if badArgs 3 a b 0 then 1 else 7)) w') : cl Tryd.prog 23 #[.pointer none, .string a, .string b] w R := by
  refine C.r09_DocRename ?_
  unfold F.r09_DocRename
  exact ref_ask_nil ha hb hR
theorem ref_Restart_nil {w : World} {done : Bool} {kv : Value} {R : Value → World → Prop} (hR : ∀ w', Fr w.heap.size No w w' → R (.int .i64 7) w') : cl Tryd.prog 28 #[.pointer none, .agg #[.bool done, kv]] w R := by
  refine C.r09_DocRestart ?_
  unfold F.r09_DocRestart
  simp only [bx_eq, T.ty_28, T.fa_52_2, T.ld_4, T.st_4, T.fa_52_3, T.st_3, T.fa_34_0, T.fa_52_5, T.ld_3, T.fa_52_6, T.ld_9, T.fa_52_7, T.fa_52_8, T.fa_52_0, T.ld_50, T.ln_50, T.bs_31_0, T.ia_50, T.fa_96_1, T.ld_31, T.ap_31_31, T.fa_96_2, T.ld_32, T.ln_32, T.ia_32, T.fa_34_1, T.ia_31, T.st_5, T.st_31, T.st_32, bx_eq, mm_eq, nc_eq, cnd_eq, bcond_true, bcond_false, pk_eq, pk_int, ex_eq, ldc_some, un_not, un_neg, mn_eq, mx_eq, bin_add, bin_sub, bin_mul, bin_lss, bin_leq, bin_gtr, bin_geq, bin_eql, bin_neq, bin_peq, bin_pne, bin_beq, bin_bne, bin_leqn, bin_lnen, bin_seq, bin_sne, bin_sge, bin_slt, rdc_cells, mapEs_some, frz_none, Nat.zero_add, Nat.add_zero, List.getElem?_toArray, List.getElem?_cons_zero, List.getElem?_cons_succ, Option.isNone_some, Option.isNone_none, Bool.not_true, Bool.not_false, ite_true, ite_false, Bool.false_eq_true, true_and, and_true, forall_const, false_implies, reduceCtorEq, Bool.true_eq_false, Nat.reduceAdd, Nat.reduceMul, Nat.reduceLT, Nat.reduceSub, Int.reduceEq, Int.reduceLT, decide_true, decide_false, List.setIfInBounds_toArray, List.set_cons_zero, List.set_cons_succ, List.size_toArray, List.length_cons, List.length_nil, frz00, one_int, one_bool, one_ptr, one_str, one_slice, one_map, one_func, one_nil, one_niliface, size_put, size_alloc, put_same, st1_put, bsc_empty, List.nil_append, List.append_nil, List.map_cons, List.map_nil, cells_ptr, cells_str, cells_int, cells_bool, cells_slice, cells_agg, cells_map, fillB_one, fillB_nil, bdc]
  exact hR _ (Fr.refl.alloc (Nat.le_refl _))

/-- The law's own copy of a fate. -/
theorem fate_copy {w : World} {done : Bool} {keep : List Bool} {kv : Value} (hk : FlagsA No w keep kv) (hkl : small keep.length) {R : Value → World → Prop}
    (hR : ∀ w' kv', FlagsV w' keep kv' → Fr w.heap.size No w w' → R (.agg #[.bool done, kv']) w') : cl Tryd.prog 27 #[.agg #[.bool done, kv]] w R := by
  have hkl : keep.length < 2 ^ 36 := hkl
  obtain ⟨ke, hk⟩ := hk
  obtain ⟨KA, kc, rfl, _⟩ := Sl.shape hk
  refine C.l09_fate ?_
  unfold F.l09_fate
  simp only [bx_eq, cells_agg, T.al_44, T.fa_34_0, T.ld_4, T.fa_34_1, T.ld_32, T.bs_32_0, T.ap_32_32, T.bd_44_0_1, T.st_44, T.ld_44]
  generalize hw1 : w.alloc (.cells #[.bool done, .slice KA keep.length kc] 34 (0, 0)) = w1
  have hf1 : Fr w.heap.size No w w1 := by rw [← hw1]; exact Fr.refl.alloc (Nat.le_refl _)
  have hat1 : w1.heap[w.heap.size]? = some (.cells #[.bool done, .slice KA keep.length kc] 34 (0, 0)) := by rw [← hw1]; exact alloc_at rfl
  generalize hw2 : w1.alloc (.cells #[.bool false, .slice none 0 0] 44 (0, 0)) = w2
  have hf2 : Fr w1.heap.size No w1 w2 := by rw [← hw2]; exact Fr.refl.alloc (Nat.le_refl _)
  have hat2 : w2.heap[w1.heap.size]? = some (.cells #[.bool false, .slice none 0 0] 44 (0, 0)) := by rw [← hw2]; exact alloc_at rfl
  have hfw2 : Fr w.heap.size No w w2 := hf1.trans (hf2.no hf1.1)
  have hat1' := young_at hf2 hat1
  have hu : ∀ z, Fr w2.heap.size No w2 z → z.heap[w.heap.size]? = some (.cells #[.bool done, .slice KA keep.length kc] 34 (0, 0)) := fun z hz => young_at hz hat1'
  refine ⟨fun z => Fr w2.heap.size No w2 z, Fr.refl.drew, ?_⟩
  refine opS_of (.pointer (some ⟨w.heap.size, 0, none⟩)) (fun z h0 K hK => by simp only [T.al_44, T.fa_34_0, T.ld_4, T.fa_34_1, T.ld_32, T.bs_32_0, T.ap_32_32, T.bd_44_0_1, T.st_44, T.ld_44, bx_eq, mm_eq, nc_eq, cnd_eq, bcond_true, bcond_false, pk_eq, pk_int, ex_eq, ldc_some, un_not, un_neg, mn_eq, mx_eq, bin_add, bin_sub, bin_mul, bin_lss, bin_leq, bin_gtr, bin_geq, bin_eql, bin_neq, bin_peq, bin_pne, bin_beq, bin_bne, bin_leqn, bin_lnen, bin_seq, bin_sne, bin_sge, bin_slt, rdc_cells, mapEs_some, frz_none, Nat.zero_add, Nat.add_zero, List.getElem?_toArray, List.getElem?_cons_zero, List.getElem?_cons_succ, Option.isNone_some, Option.isNone_none, Bool.not_true, Bool.not_false, ite_true, ite_false, Bool.false_eq_true, true_and, and_true, forall_const, false_implies, reduceCtorEq, Bool.true_eq_false, Nat.reduceAdd, Nat.reduceMul, Nat.reduceLT, Nat.reduceSub, Int.reduceEq, Int.reduceLT, decide_true, decide_false, List.setIfInBounds_toArray, List.set_cons_zero, List.set_cons_succ, List.size_toArray, List.length_cons, List.length_nil, frz00, one_int, one_bool, one_ptr, one_str, one_slice, one_map, one_func, one_nil, one_niliface, size_put, size_alloc, put_same, st1_put, bsc_empty, List.nil_append, List.append_nil, List.map_cons, List.map_nil, cells_ptr, cells_str, cells_int, cells_bool, cells_slice, cells_agg, cells_map, fillB_one, fillB_nil, bdc]; exact hK) ?_
  refine opS_of (.bool done) (fun z h0 K hK => by simp only [T.al_44, T.fa_34_0, T.ld_4, T.fa_34_1, T.ld_32, T.bs_32_0, T.ap_32_32, T.bd_44_0_1, T.st_44, T.ld_44, bx_eq, mm_eq, nc_eq, cnd_eq, bcond_true, bcond_false, pk_eq, pk_int, ex_eq, ldc_some, un_not, un_neg, mn_eq, mx_eq, bin_add, bin_sub, bin_mul, bin_lss, bin_leq, bin_gtr, bin_geq, bin_eql, bin_neq, bin_peq, bin_pne, bin_beq, bin_bne, bin_leqn, bin_lnen, bin_seq, bin_sne, bin_sge, bin_slt, rdc_cells, mapEs_some, frz_none, Nat.zero_add, Nat.add_zero, List.getElem?_toArray, List.getElem?_cons_zero, List.getElem?_cons_succ, Option.isNone_some, Option.isNone_none, Bool.not_true, Bool.not_false, ite_true, ite_false, Bool.false_eq_true, true_and, and_true, forall_const, false_implies, reduceCtorEq, Bool.true_eq_false, Nat.reduceAdd, Nat.reduceMul, Nat.reduceLT, Nat.reduceSub, Int.reduceEq, Int.reduceLT, decide_true, decide_false, List.setIfInBounds_toArray, List.set_cons_zero, List.set_cons_succ, List.size_toArray, List.length_cons, List.length_nil, frz00, one_int, one_bool, one_ptr, one_str, one_slice, one_map, one_func, one_nil, one_niliface, size_put, size_alloc, put_same, st1_put, bsc_empty, List.nil_append, List.append_nil, List.map_cons, List.map_nil, cells_ptr, cells_str, cells_int, cells_bool, cells_slice, cells_agg, cells_map, fillB_one, fillB_nil, bdc, hu z h0]; exact hK) ?_
  refine opS_of (.pointer (some ⟨w.heap.size, 1, none⟩)) (fun z h0 K hK => by simp only [T.al_44, T.fa_34_0, T.ld_4, T.fa_34_1, T.ld_32, T.bs_32_0, T.ap_32_32, T.bd_44_0_1, T.st_44, T.ld_44, bx_eq, mm_eq, nc_eq, cnd_eq, bcond_true, bcond_false, pk_eq, pk_int, ex_eq, ldc_some, un_not, un_neg, mn_eq, mx_eq, bin_add, bin_sub, bin_mul, bin_lss, bin_leq, bin_gtr, bin_geq, bin_eql, bin_neq, bin_peq, bin_pne, bin_beq, bin_bne, bin_leqn, bin_lnen, bin_seq, bin_sne, bin_sge, bin_slt, rdc_cells, mapEs_some, frz_none, Nat.zero_add, Nat.add_zero, List.getElem?_toArray, List.getElem?_cons_zero, List.getElem?_cons_succ, Option.isNone_some, Option.isNone_none, Bool.not_true, Bool.not_false, ite_true, ite_false, Bool.false_eq_true, true_and, and_true, forall_const, false_implies, reduceCtorEq, Bool.true_eq_false, Nat.reduceAdd, Nat.reduceMul, Nat.reduceLT, Nat.reduceSub, Int.reduceEq, Int.reduceLT, decide_true, decide_false, List.setIfInBounds_toArray, List.set_cons_zero, List.set_cons_succ, List.size_toArray, List.length_cons, List.length_nil, frz00, one_int, one_bool, one_ptr, one_str, one_slice, one_map, one_func, one_nil, one_niliface, size_put, size_alloc, put_same, st1_put, bsc_empty, List.nil_append, List.append_nil, List.map_cons, List.map_nil, cells_ptr, cells_str, cells_int, cells_bool, cells_slice, cells_agg, cells_map, fillB_one, fillB_nil, bdc]; exact hK) ?_
  refine opS_of (.slice KA keep.length kc) (fun z h0 K hK => by simp only [T.al_44, T.fa_34_0, T.ld_4, T.fa_34_1, T.ld_32, T.bs_32_0, T.ap_32_32, T.bd_44_0_1, T.st_44, T.ld_44, bx_eq, mm_eq, nc_eq, cnd_eq, bcond_true, bcond_false, pk_eq, pk_int, ex_eq, ldc_some, un_not, un_neg, mn_eq, mx_eq, bin_add, bin_sub, bin_mul, bin_lss, bin_leq, bin_gtr, bin_geq, bin_eql, bin_neq, bin_peq, bin_pne, bin_beq, bin_bne, bin_leqn, bin_lnen, bin_seq, bin_sne, bin_sge, bin_slt, rdc_cells, mapEs_some, frz_none, Nat.zero_add, Nat.add_zero, List.getElem?_toArray, List.getElem?_cons_zero, List.getElem?_cons_succ, Option.isNone_some, Option.isNone_none, Bool.not_true, Bool.not_false, ite_true, ite_false, Bool.false_eq_true, true_and, and_true, forall_const, false_implies, reduceCtorEq, Bool.true_eq_false, Nat.reduceAdd, Nat.reduceMul, Nat.reduceLT, Nat.reduceSub, Int.reduceEq, Int.reduceLT, decide_true, decide_false, List.setIfInBounds_toArray, List.set_cons_zero, List.set_cons_succ, List.size_toArray, List.length_cons, List.length_nil, frz00, one_int, one_bool, one_ptr, one_str, one_slice, one_map, one_func, one_nil, one_niliface, size_put, size_alloc, put_same, st1_put, bsc_empty, List.nil_append, List.append_nil, List.map_cons, List.map_nil, cells_ptr, cells_str, cells_int, cells_bool, cells_slice, cells_agg, cells_map, fillB_one, fillB_nil, bdc, hu z h0]; exact hK) ?_
  simp only [T.al_44, T.fa_34_0, T.ld_4, T.fa_34_1, T.ld_32, T.bs_32_0, T.ap_32_32, T.bd_44_0_1, T.st_44, T.ld_44, bx_eq, mm_eq, nc_eq, cnd_eq, bcond_true, bcond_false, pk_eq, pk_int, ex_eq, ldc_some, un_not, un_neg, mn_eq, mx_eq, bin_add, bin_sub, bin_mul, bin_lss, bin_leq, bin_gtr, bin_geq, bin_eql, bin_neq, bin_peq, bin_pne, bin_beq, bin_bne, bin_leqn, bin_lnen, bin_seq, bin_sne, bin_sge, bin_slt, rdc_cells, mapEs_some, frz_none, Nat.zero_add, Nat.add_zero, List.getElem?_toArray, List.getElem?_cons_zero, List.getElem?_cons_succ, Option.isNone_some, Option.isNone_none, Bool.not_true, Bool.not_false, ite_true, ite_false, Bool.false_eq_true, true_and, and_true, forall_const, false_implies, reduceCtorEq, Bool.true_eq_false, Nat.reduceAdd, Nat.reduceMul, Nat.reduceLT, Nat.reduceSub, Int.reduceEq, Int.reduceLT, decide_true, decide_false, List.setIfInBounds_toArray, List.set_cons_zero, List.set_cons_succ, List.size_toArray, List.length_cons, List.length_nil, frz00, one_int, one_bool, one_ptr, one_str, one_slice, one_map, one_func, one_nil, one_niliface, size_put, size_alloc, put_same, st1_put, bsc_empty, List.nil_append, List.append_nil, List.map_cons, List.map_nil, cells_ptr, cells_str, cells_int, cells_bool, cells_slice, cells_agg, cells_map, fillB_one, fillB_nil, bdc]
  generalize hw3 : w2.drew.alloc (.cells #[] 4) = w3
  have hf3 : Fr w2.heap.size No w2 w3 := by rw [← hw3]; exact Fr.refl.drew.alloc (Nat.le_refl _)
  have hsz : w2.drew.heap.size = w2.heap.size := rfl
  refine ⟨hf3, ?_⟩
  rw [hsz]
  have hO : Ow w2.heap.size 4 1 w3 (.slice (some ⟨w2.heap.size, 0, none⟩) 0 0) 0 [] := ⟨_, 0, rfl, Nat.le_refl _, by simp, .inr ⟨_, 0, _, rfl, Nat.le_refl _, by rw [← hw3]; exact alloc_at rfl, by simp, by simp⟩⟩
  have hk3 := Sl.young (Sl.young hk hfw2) hf3
  rw [src_sl hk3]
  refine ap_own hO rfl (by decide) (by simp) (by intro q hq; obtain ⟨b, _, rfl⟩ := List.mem_map.1 hq; rfl) hf3.1 (by omega) (by omega) fun A4 c4 w4 ho4 hof4 => ?_
  rw [List.nil_append, Nat.zero_add] at ho4
  rw [Nat.zero_add]
  have hf4 : Fr w2.heap.size No w2 w4 := hf3.trans (hof4.fr hf3.1)
  refine ⟨hf4, ?_⟩
  refine opS_of (.agg #[.bool done, .slice A4 keep.length c4]) (fun z h0 K hK => by
    simp only [T.al_44, T.fa_34_0, T.ld_4, T.fa_34_1, T.ld_32, T.bs_32_0, T.ap_32_32, T.bd_44_0_1, T.st_44, T.ld_44]
    rw [bdc_some (cs := #[.bool done, .slice A4 keep.length c4]) (by rw [fillB_one rfl (by simp), fillB_one rfl (by simp), fillB_nil]; rfl)]; exact hK) ?_
  have hat4 := young_at hf4 hat2
  rw [stN_at hat4]
  refine ⟨rfl, by
    intro q hq
    simp only [List.mem_toArray, List.mem_cons, List.not_mem_nil, or_false] at hq
    rcases hq with rfl | rfl <;> rfl, Nat.le_refl _, frz00 _ _, ?_⟩
  rw [splice_all (by rfl)]
  have hatp : (w4.put w1.heap.size (.cells #[.bool done, .slice A4 keep.length c4] 44 (0, 0))).heap[w1.heap.size]? = some (.cells #[.bool done, .slice A4 keep.length c4] 44 (0, 0)) := put_same (lt_at hat4)
  refine retC_one (u := .agg #[.bool done, .slice A4 keep.length c4]) ?_ ?_
  · simp only [T.al_44, T.fa_34_0, T.ld_4, T.fa_34_1, T.ld_32, T.bs_32_0, T.ap_32_32, T.bd_44_0_1, T.st_44, T.ld_44, hatp]
    exact ⟨trivial, rfl⟩
  · refine hR _ _ ?_ ?_
    · refine FlagsV.fr (N := w4.heap.size) (S := fun b => b = w1.heap.size) (ho4.sl.mono fun _ _ _ => trivial) (Fr.refl.put (.inl rfl)) fun b Y f hb => ⟨lt_at hb, ?_⟩
      rintro rfl
      rw [hat4] at hb; injection hb with hb; injection hb with _ hb; cases hb
    · exact (hfw2.trans (hf4.no hfw2.1)).put (.inr hf1.1)
end Go.Proofs.YtppefblkmgihoaaDoor
