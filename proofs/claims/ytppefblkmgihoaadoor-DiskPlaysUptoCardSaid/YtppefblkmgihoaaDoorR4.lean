/- The reference of layer 9: carry. -/
import Derived.Test.YtppefblkmgihoaaDoorR3
set_option linter.unusedVariables false
set_option linter.unusedSimpArgs false
set_option maxRecDepth 10000
namespace Go.Proofs.YtppefblkmgihoaaDoor
open Go.Sh

def Pend.op : Pend → Int | .nothing => 0 | .sync _ => 1 | .trunc _ _ => 2 | .ren _ _ => 3 | .rem _ => 4
def Pend.fst : Pend → ByteArray | .nothing => ⟨#[]⟩ | .sync a => a | .trunc a _ => a | .ren a _ => a | .rem a => a
def Pend.snd : Pend → ByteArray | .ren _ b => b | _ => ⟨#[]⟩
def Pend.num : Pend → Nat | .trunc _ n => n | _ => 0
def Pend.carry : Pend → Files → Files
  | .nothing, l => l
  | .sync a, l => match aget l a with | none => l | some s => l.put (a, s.map Sec.sync)
  | .trunc a n, l => match aget l a with | none => l | some s => l.put (a, (s.take n).map Sec.sync)
  | .ren a b, l => match aget l a with | none => l | some s => (l.drop a).put (b, s)
  | .rem a, l => match aget l a with | none => l | some s => l.drop a
theorem carry_none {p : Pend} {l : Files} (h : aget l p.fst = none) : p.carry l = l := by
  cases p <;> simp only [Pend.carry, Pend.fst] at h ⊢ <;> rw [h]
theorem bytes_sync (l : List Sec) : Secs.bytes (l.map Sec.sync) = Secs.bytes l := by
  unfold Secs.bytes; rw [List.flatMap_map]; rfl
theorem flags_sync (l : List Sec) : Secs.flags (l.map Sec.sync) = List.replicate l.length true := by
  unfold Secs.flags; rw [List.map_map, ← List.map_const']; rfl
theorem flags_len (l : List Sec) : (Secs.flags l).length = l.length := by simp [Secs.flags]
theorem bytes_len {l : List Sec} (h : ∀ s ∈ l, s.by_.length = 32) : (Secs.bytes l).length = 32 * l.length := by
  induction l with
  | nil => rfl
  | cons s r ih =>
    have := ih fun x hx => h x (List.mem_cons_of_mem _ hx)
    unfold Secs.bytes at *
    rw [List.flatMap_cons, List.length_append, h s (by simp), this, List.length_cons]; omega
theorem bytes_take {l : List Sec} (h : ∀ s ∈ l, s.by_.length = 32) (k : Nat) : Secs.bytes (l.take k) = (Secs.bytes l).take (32 * k) := by
  induction l generalizing k with
  | nil => simp [Secs.bytes]
  | cons s r ih =>
    cases k with
    | zero => simp [Secs.bytes]
    | succ k =>
      have := ih (fun x hx => h x (List.mem_cons_of_mem _ hx)) k
      unfold Secs.bytes at *
      rw [List.take_succ_cons, List.flatMap_cons, List.flatMap_cons, this, List.take_append, List.take_of_length_le (l := s.by_) (by rw [h s (by simp)]; omega), h s (by simp)]
      rw [show 32 * (k + 1) - 32 = 32 * k by omega]
theorem BytesV.young {w w' : World} {l : List UInt8} {v : Value} (h : BytesV w l v) (hf : Fr w.heap.size No w w') : BytesV w' l v := Sl.fr h hf fun b X f _ hb => ⟨lt_at hb, no_not⟩
theorem FlagsV.young {w w' : World} {l : List Bool} {v : Value} (h : FlagsV w l v) (hf : Fr w.heap.size No w w') : FlagsV w' l v := Sl.fr h hf fun b X f _ hb => ⟨lt_at hb, no_not⟩

/-- The way to a file, for all of carry's kinds. -/
theorem ref_carry {N : Nat} {w : World} {x : Nat} {X : Rk} {fv : Value} {p : Pend} (h : RkAt N w x X fv) (hl : small X.fs.length) (hok : X.fs.ok) (hn : p.num < 2 ^ 63) {R : Value → World → Prop}
    (hR : ∀ w' fv', RkAt N w' x { X with fs := p.carry X.fs } fv' → Fr w.heap.size (fun b => b = x) w w' → R (.tuple #[]) w') : cl Tryd.prog 56 #[ptr x, .int .i64 p.op, .string p.fst, .string p.snd, .int .i64 p.num] w R := by
  refine C.r09_carry ?_
  unfold F.r09_carry
  refine ref_find h hl (fun h0 u hf => ?_) (fun i hi hia hg u hf => ?_)
  · simp only [T.fa_52_0, T.ld_50, T.ia_50, T.ld_96, T.al_96, T.st_96, T.fa_96_1, T.ld_31, T.fa_96_2, T.ld_32, T.ln_32, T.bd_96_0_1_2, T.sl_31, T.fa_96_0, T.st_9, bx_eq, mm_eq, nc_eq, cnd_eq, bcond_true, bcond_false, pk_eq, pk_int, ex_eq, ldc_some, un_not, un_neg, mn_eq, mx_eq, bin_add, bin_sub, bin_mul, bin_lss, bin_leq, bin_gtr, bin_geq, bin_eql, bin_neq, bin_peq, bin_pne, bin_beq, bin_bne, bin_leqn, bin_lnen, bin_seq, bin_sne, bin_sge, bin_slt, rdc_cells, mapEs_some, frz_none, Nat.zero_add, Nat.add_zero, List.getElem?_toArray, List.getElem?_cons_zero, List.getElem?_cons_succ, Option.isNone_some, Option.isNone_none, Bool.not_true, Bool.not_false, ite_true, ite_false, Bool.false_eq_true, true_and, and_true, forall_const, false_implies, reduceCtorEq, Bool.true_eq_false, Nat.reduceAdd, Nat.reduceMul, Nat.reduceLT, Nat.reduceSub, Int.reduceEq, Int.reduceLT, decide_true, decide_false, List.setIfInBounds_toArray, List.set_cons_zero, List.set_cons_succ, List.size_toArray, List.length_cons, List.length_nil, frz00, one_int, one_bool, one_ptr, one_str, one_slice, one_map, one_func, one_nil, one_niliface, size_put, size_alloc, put_same, st1_put, bsc_empty, List.nil_append, List.append_nil, List.map_cons, List.map_nil, cells_ptr, cells_str, cells_int, cells_bool, cells_slice, cells_agg, cells_map, fillB_one, fillB_nil, bdc]
    exact hR u fv (by rw [carry_none h0]; exact h.young hf) (hf.no (Nat.le_refl _))
  have hu := h.young hf
  have hblk := hu.blk
  unfold Rk.cells at hblk
  have hneg : decide ((i : Int) < 0) = false := decide_eq_false (by omega)
  obtain ⟨b, o, c', bv, sv, rfl, _, hrd, hbv, hsv, h32⟩ := hu.fs.row hi
  rw [hia] at hrd
  simp only [T.fa_52_0, T.ld_50, T.ia_50, T.ld_96, T.al_96, T.st_96, T.fa_96_1, T.ld_31, T.fa_96_2, T.ld_32, T.ln_32, T.bd_96_0_1_2, T.sl_31, T.fa_96_0, T.st_9, bx_eq, mm_eq, nc_eq, cnd_eq, bcond_true, bcond_false, pk_eq, pk_int, ex_eq, ldc_some, un_not, un_neg, mn_eq, mx_eq, bin_add, bin_sub, bin_mul, bin_lss, bin_leq, bin_gtr, bin_geq, bin_eql, bin_neq, bin_peq, bin_pne, bin_beq, bin_bne, bin_leqn, bin_lnen, bin_seq, bin_sne, bin_sge, bin_slt, rdc_cells, mapEs_some, frz_none, Nat.zero_add, Nat.add_zero, List.getElem?_toArray, List.getElem?_cons_zero, List.getElem?_cons_succ, Option.isNone_some, Option.isNone_none, Bool.not_true, Bool.not_false, ite_true, ite_false, Bool.false_eq_true, true_and, and_true, forall_const, false_implies, reduceCtorEq, Bool.true_eq_false, Nat.reduceAdd, Nat.reduceMul, Nat.reduceLT, Nat.reduceSub, Int.reduceEq, Int.reduceLT, decide_true, decide_false, List.setIfInBounds_toArray, List.set_cons_zero, List.set_cons_succ, List.size_toArray, List.length_cons, List.length_nil, frz00, one_int, one_bool, one_ptr, one_str, one_slice, one_map, one_func, one_nil, one_niliface, size_put, size_alloc, put_same, st1_put, bsc_empty, List.nil_append, List.append_nil, List.map_cons, List.map_nil, cells_ptr, cells_str, cells_int, cells_bool, cells_slice, cells_agg, cells_map, fillB_one, fillB_nil, bdc, hneg, hblk, ptr, Int.toNat_natCast, hrd, ldn]
  refine ⟨by omega, by omega, ?_⟩
  refine stN_new rfl rfl (row_one hbv hsv) ?_
  generalize hu2 : u.alloc (.cells #[.string p.fst, bv, sv] 96 (0, 0)) = u2
  have hfu : Fr u.heap.size No u u2 := by rw [← hu2]; exact Fr.refl.alloc (Nat.le_refl _)
  have hf2 : Fr w.heap.size No w u2 := hf.trans (hfu.no hf.1)
  have ha : u2.heap[u.heap.size]? = some (.cells #[.string p.fst, bv, sv] 96 (0, 0)) := by rw [← hu2]; exact alloc_at rfl
  have h2 := hu.young hfu
  have hbv2 := hbv.young hfu
  have hsv2 := hsv.young hfu
  obtain ⟨B, cb, rfl⟩ := hbv2.shape
  obtain ⟨S, cs, rfl⟩ := hsv2.shape
  have hsm : (X.fs[i]).2.length < 2 ^ 36 := hok _ (List.getElem_mem _)
  have hv2 := True.intro
  cases p with
  | nothing =>
    simp only [Pend.op, Pend.fst, Pend.snd, Pend.num, Int.reduceEq, decide_false, bcond_false]
    exact hR u2 _ (by simpa [Pend.carry] using h2) (hf2.no (Nat.le_refl _))
  | rem a =>
    simp only [Pend.op, Pend.fst, Pend.snd, Pend.num, Int.reduceEq, decide_false, decide_true, bcond_false, bcond_true] at *
    refine ref_drop h2 hl fun w3 fv3 h3 _ hf3 => ?_
    exact hR w3 fv3 (by simp only [Pend.carry, hg]; exact h3) ((hf2.no (Nat.le_refl _)).then hf3 hf2.1 fun _ _ h => h)
  | sync a =>
    simp only [Pend.op, Pend.fst, Pend.snd, Pend.num, Int.reduceEq, decide_false, decide_true, bcond_false, bcond_true] at *
    refine ⟨fun z => Fr u2.heap.size No u2 z, Fr.refl.drew, ?_⟩
    have hz : ∀ z, Fr u2.heap.size No u2 z → z.heap[u.heap.size]? = some (.cells #[.string a, .slice B (Secs.bytes (X.fs[i]).2).length cb, .slice S (Secs.flags (X.fs[i]).2).length cs] 96 (0, 0)) := fun z hz => young_at hz ha
    refine opS_of (.pointer (some ⟨u.heap.size, 1, none⟩)) (fun z h0 K hK => by simp only [T.fa_52_0, T.ld_50, T.ia_50, T.ld_96, T.al_96, T.st_96, T.fa_96_1, T.ld_31, T.fa_96_2, T.ld_32, T.ln_32, T.bd_96_0_1_2, T.sl_31, T.fa_96_0, T.st_9, bx_eq, mm_eq, nc_eq, cnd_eq, bcond_true, bcond_false, pk_eq, pk_int, ex_eq, ldc_some, un_not, un_neg, mn_eq, mx_eq, bin_add, bin_sub, bin_mul, bin_lss, bin_leq, bin_gtr, bin_geq, bin_eql, bin_neq, bin_peq, bin_pne, bin_beq, bin_bne, bin_leqn, bin_lnen, bin_seq, bin_sne, bin_sge, bin_slt, rdc_cells, mapEs_some, frz_none, Nat.zero_add, Nat.add_zero, List.getElem?_toArray, List.getElem?_cons_zero, List.getElem?_cons_succ, Option.isNone_some, Option.isNone_none, Bool.not_true, Bool.not_false, ite_true, ite_false, Bool.false_eq_true, true_and, and_true, forall_const, false_implies, reduceCtorEq, Bool.true_eq_false, Nat.reduceAdd, Nat.reduceMul, Nat.reduceLT, Nat.reduceSub, Int.reduceEq, Int.reduceLT, decide_true, decide_false, List.setIfInBounds_toArray, List.set_cons_zero, List.set_cons_succ, List.size_toArray, List.length_cons, List.length_nil, frz00, one_int, one_bool, one_ptr, one_str, one_slice, one_map, one_func, one_nil, one_niliface, size_put, size_alloc, put_same, st1_put, bsc_empty, List.nil_append, List.append_nil, List.map_cons, List.map_nil, cells_ptr, cells_str, cells_int, cells_bool, cells_slice, cells_agg, cells_map, fillB_one, fillB_nil, bdc]; exact hK) ?_
    refine opS_of (.slice B (Secs.bytes (X.fs[i]).2).length cb) (fun z h0 K hK => by simp only [T.fa_52_0, T.ld_50, T.ia_50, T.ld_96, T.al_96, T.st_96, T.fa_96_1, T.ld_31, T.fa_96_2, T.ld_32, T.ln_32, T.bd_96_0_1_2, T.sl_31, T.fa_96_0, T.st_9, bx_eq, mm_eq, nc_eq, cnd_eq, bcond_true, bcond_false, pk_eq, pk_int, ex_eq, ldc_some, un_not, un_neg, mn_eq, mx_eq, bin_add, bin_sub, bin_mul, bin_lss, bin_leq, bin_gtr, bin_geq, bin_eql, bin_neq, bin_peq, bin_pne, bin_beq, bin_bne, bin_leqn, bin_lnen, bin_seq, bin_sne, bin_sge, bin_slt, rdc_cells, mapEs_some, frz_none, Nat.zero_add, Nat.add_zero, List.getElem?_toArray, List.getElem?_cons_zero, List.getElem?_cons_succ, Option.isNone_some, Option.isNone_none, Bool.not_true, Bool.not_false, ite_true, ite_false, Bool.false_eq_true, true_and, and_true, forall_const, false_implies, reduceCtorEq, Bool.true_eq_false, Nat.reduceAdd, Nat.reduceMul, Nat.reduceLT, Nat.reduceSub, Int.reduceEq, Int.reduceLT, decide_true, decide_false, List.setIfInBounds_toArray, List.set_cons_zero, List.set_cons_succ, List.size_toArray, List.length_cons, List.length_nil, frz00, one_int, one_bool, one_ptr, one_str, one_slice, one_map, one_func, one_nil, one_niliface, size_put, size_alloc, put_same, st1_put, bsc_empty, List.nil_append, List.append_nil, List.map_cons, List.map_nil, cells_ptr, cells_str, cells_int, cells_bool, cells_slice, cells_agg, cells_map, fillB_one, fillB_nil, bdc, hz z h0]; exact hK) ?_
    refine opS_of (.pointer (some ⟨u.heap.size, 2, none⟩)) (fun z h0 K hK => by simp only [T.fa_52_0, T.ld_50, T.ia_50, T.ld_96, T.al_96, T.st_96, T.fa_96_1, T.ld_31, T.fa_96_2, T.ld_32, T.ln_32, T.bd_96_0_1_2, T.sl_31, T.fa_96_0, T.st_9, bx_eq, mm_eq, nc_eq, cnd_eq, bcond_true, bcond_false, pk_eq, pk_int, ex_eq, ldc_some, un_not, un_neg, mn_eq, mx_eq, bin_add, bin_sub, bin_mul, bin_lss, bin_leq, bin_gtr, bin_geq, bin_eql, bin_neq, bin_peq, bin_pne, bin_beq, bin_bne, bin_leqn, bin_lnen, bin_seq, bin_sne, bin_sge, bin_slt, rdc_cells, mapEs_some, frz_none, Nat.zero_add, Nat.add_zero, List.getElem?_toArray, List.getElem?_cons_zero, List.getElem?_cons_succ, Option.isNone_some, Option.isNone_none, Bool.not_true, Bool.not_false, ite_true, ite_false, Bool.false_eq_true, true_and, and_true, forall_const, false_implies, reduceCtorEq, Bool.true_eq_false, Nat.reduceAdd, Nat.reduceMul, Nat.reduceLT, Nat.reduceSub, Int.reduceEq, Int.reduceLT, decide_true, decide_false, List.setIfInBounds_toArray, List.set_cons_zero, List.set_cons_succ, List.size_toArray, List.length_cons, List.length_nil, frz00, one_int, one_bool, one_ptr, one_str, one_slice, one_map, one_func, one_nil, one_niliface, size_put, size_alloc, put_same, st1_put, bsc_empty, List.nil_append, List.append_nil, List.map_cons, List.map_nil, cells_ptr, cells_str, cells_int, cells_bool, cells_slice, cells_agg, cells_map, fillB_one, fillB_nil, bdc]; exact hK) ?_
    refine opS_of (.slice S (Secs.flags (X.fs[i]).2).length cs) (fun z h0 K hK => by simp only [T.fa_52_0, T.ld_50, T.ia_50, T.ld_96, T.al_96, T.st_96, T.fa_96_1, T.ld_31, T.fa_96_2, T.ld_32, T.ln_32, T.bd_96_0_1_2, T.sl_31, T.fa_96_0, T.st_9, bx_eq, mm_eq, nc_eq, cnd_eq, bcond_true, bcond_false, pk_eq, pk_int, ex_eq, ldc_some, un_not, un_neg, mn_eq, mx_eq, bin_add, bin_sub, bin_mul, bin_lss, bin_leq, bin_gtr, bin_geq, bin_eql, bin_neq, bin_peq, bin_pne, bin_beq, bin_bne, bin_leqn, bin_lnen, bin_seq, bin_sne, bin_sge, bin_slt, rdc_cells, mapEs_some, frz_none, Nat.zero_add, Nat.add_zero, List.getElem?_toArray, List.getElem?_cons_zero, List.getElem?_cons_succ, Option.isNone_some, Option.isNone_none, Bool.not_true, Bool.not_false, ite_true, ite_false, Bool.false_eq_true, true_and, and_true, forall_const, false_implies, reduceCtorEq, Bool.true_eq_false, Nat.reduceAdd, Nat.reduceMul, Nat.reduceLT, Nat.reduceSub, Int.reduceEq, Int.reduceLT, decide_true, decide_false, List.setIfInBounds_toArray, List.set_cons_zero, List.set_cons_succ, List.size_toArray, List.length_cons, List.length_nil, frz00, one_int, one_bool, one_ptr, one_str, one_slice, one_map, one_func, one_nil, one_niliface, size_put, size_alloc, put_same, st1_put, bsc_empty, List.nil_append, List.append_nil, List.map_cons, List.map_nil, cells_ptr, cells_str, cells_int, cells_bool, cells_slice, cells_agg, cells_map, fillB_one, fillB_nil, bdc, hz z h0]; exact hK) ?_
    refine opS_of (.int .i64 ((X.fs[i]).2.length : Nat)) (fun z h0 K hK => by simp only [T.fa_52_0, T.ld_50, T.ia_50, T.ld_96, T.al_96, T.st_96, T.fa_96_1, T.ld_31, T.fa_96_2, T.ld_32, T.ln_32, T.bd_96_0_1_2, T.sl_31, T.fa_96_0, T.st_9, bx_eq, mm_eq, nc_eq, cnd_eq, bcond_true, bcond_false, pk_eq, pk_int, ex_eq, ldc_some, un_not, un_neg, mn_eq, mx_eq, bin_add, bin_sub, bin_mul, bin_lss, bin_leq, bin_gtr, bin_geq, bin_eql, bin_neq, bin_peq, bin_pne, bin_beq, bin_bne, bin_leqn, bin_lnen, bin_seq, bin_sne, bin_sge, bin_slt, rdc_cells, mapEs_some, frz_none, Nat.zero_add, Nat.add_zero, List.getElem?_toArray, List.getElem?_cons_zero, List.getElem?_cons_succ, Option.isNone_some, Option.isNone_none, Bool.not_true, Bool.not_false, ite_true, ite_false, Bool.false_eq_true, true_and, and_true, forall_const, false_implies, reduceCtorEq, Bool.true_eq_false, Nat.reduceAdd, Nat.reduceMul, Nat.reduceLT, Nat.reduceSub, Int.reduceEq, Int.reduceLT, decide_true, decide_false, List.setIfInBounds_toArray, List.set_cons_zero, List.set_cons_succ, List.size_toArray, List.length_cons, List.length_nil, frz00, one_int, one_bool, one_ptr, one_str, one_slice, one_map, one_func, one_nil, one_niliface, size_put, size_alloc, put_same, st1_put, bsc_empty, List.nil_append, List.append_nil, List.map_cons, List.map_nil, cells_ptr, cells_str, cells_int, cells_bool, cells_slice, cells_agg, cells_map, fillB_one, fillB_nil, bdc, flags_len]; exact hK) ?_
    refine ref_flags hsm fun v3 w3 ho3 hf3 => ⟨hf3, ?_⟩
    obtain ⟨A3, c3, rfl, _⟩ := ho3.sl.shape
    refine opS_of (.agg #[.string a, .slice B (Secs.bytes (X.fs[i]).2).length cb, .slice A3 (X.fs[i]).2.length c3]) (fun z h0 K hK => by simp only [T.fa_52_0, T.ld_50, T.ia_50, T.ld_96, T.al_96, T.st_96, T.fa_96_1, T.ld_31, T.fa_96_2, T.ld_32, T.ln_32, T.bd_96_0_1_2, T.sl_31, T.fa_96_0, T.st_9, bx_eq, mm_eq, nc_eq, cnd_eq, bcond_true, bcond_false, pk_eq, pk_int, ex_eq, ldc_some, un_not, un_neg, mn_eq, mx_eq, bin_add, bin_sub, bin_mul, bin_lss, bin_leq, bin_gtr, bin_geq, bin_eql, bin_neq, bin_peq, bin_pne, bin_beq, bin_bne, bin_leqn, bin_lnen, bin_seq, bin_sne, bin_sge, bin_slt, rdc_cells, mapEs_some, frz_none, Nat.zero_add, Nat.add_zero, List.getElem?_toArray, List.getElem?_cons_zero, List.getElem?_cons_succ, Option.isNone_some, Option.isNone_none, Bool.not_true, Bool.not_false, ite_true, ite_false, Bool.false_eq_true, true_and, and_true, forall_const, false_implies, reduceCtorEq, Bool.true_eq_false, Nat.reduceAdd, Nat.reduceMul, Nat.reduceLT, Nat.reduceSub, Int.reduceEq, Int.reduceLT, decide_true, decide_false, List.setIfInBounds_toArray, List.set_cons_zero, List.set_cons_succ, List.size_toArray, List.length_cons, List.length_nil, frz00, one_int, one_bool, one_ptr, one_str, one_slice, one_map, one_func, one_nil, one_niliface, size_put, size_alloc, put_same, st1_put, bsc_empty, List.nil_append, List.append_nil, List.map_cons, List.map_nil, cells_ptr, cells_str, cells_int, cells_bool, cells_slice, cells_agg, cells_map, fillB_one, fillB_nil, bdc]; exact hK) ?_
    have hf3' : Fr u2.heap.size No u2 w3 := hf3
    have h3 := h2.young hf3'
    refine ref_put (f := (a, (X.fs[i]).2.map Sec.sync)) (cs := [.string a, .slice B (Secs.bytes (X.fs[i]).2).length cb, .slice A3 (X.fs[i]).2.length c3]) h3 hl ⟨_, _, rfl, ?_, ?_, ?_⟩ fun w4 fv4 h4 _ hf4 => ?_
    · rw [bytes_sync]; exact hbv2.young hf3'
    · rw [flags_sync]; unfold FlagsV; rw [List.length_replicate]; exact ho3.sl.mono fun _ _ _ => trivial
    · intro s hs; obtain ⟨y, hy, rfl⟩ := List.mem_map.1 hs; exact h32 y hy
    · exact hR w4 fv4 (by simp only [Pend.carry, hg]; exact h4) ((((hf2.then hf3' hf2.1 fun _ _ h => h)).no (Nat.le_refl _)).then hf4 (Nat.le_trans hf2.1 hf3'.1) fun _ _ h => h)
  | trunc a n =>
    simp only [Pend.op, Pend.fst, Pend.snd, Pend.num, Int.reduceEq, decide_false, decide_true, bcond_false, bcond_true] at *
    simp only [T.fa_52_0, T.ld_50, T.ia_50, T.ld_96, T.al_96, T.st_96, T.fa_96_1, T.ld_31, T.fa_96_2, T.ld_32, T.ln_32, T.bd_96_0_1_2, T.sl_31, T.fa_96_0, T.st_9, bx_eq, mm_eq, nc_eq, cnd_eq, bcond_true, bcond_false, pk_eq, pk_int, ex_eq, ldc_some, un_not, un_neg, mn_eq, mx_eq, bin_add, bin_sub, bin_mul, bin_lss, bin_leq, bin_gtr, bin_geq, bin_eql, bin_neq, bin_peq, bin_pne, bin_beq, bin_bne, bin_leqn, bin_lnen, bin_seq, bin_sne, bin_sge, bin_slt, rdc_cells, mapEs_some, frz_none, Nat.zero_add, Nat.add_zero, List.getElem?_toArray, List.getElem?_cons_zero, List.getElem?_cons_succ, Option.isNone_some, Option.isNone_none, Bool.not_true, Bool.not_false, ite_true, ite_false, Bool.false_eq_true, true_and, and_true, forall_const, false_implies, reduceCtorEq, Bool.true_eq_false, Nat.reduceAdd, Nat.reduceMul, Nat.reduceLT, Nat.reduceSub, Int.reduceEq, Int.reduceLT, decide_true, decide_false, List.setIfInBounds_toArray, List.set_cons_zero, List.set_cons_succ, List.size_toArray, List.length_cons, List.length_nil, frz00, one_int, one_bool, one_ptr, one_str, one_slice, one_map, one_func, one_nil, one_niliface, size_put, size_alloc, put_same, st1_put, bsc_empty, List.nil_append, List.append_nil, List.map_cons, List.map_nil, cells_ptr, cells_str, cells_int, cells_bool, cells_slice, cells_agg, cells_map, fillB_one, fillB_nil, bdc, ha, flags_len]
    have emn : (if (((X.fs[i]).2.length : Nat) : Int) < (n : Int) then (((X.fs[i]).2.length : Nat) : Int) else (n : Int)) = ((min n (X.fs[i]).2.length : Nat) : Int) := by split <;> omega
    rw [emn]
    have hk : min n (X.fs[i]).2.length ≤ (X.fs[i]).2.length := Nat.min_le_right _ _
    generalize hkk : min n (X.fs[i]).2.length = k at hk
    refine ⟨fun z => Fr u2.heap.size No u2 z, Fr.refl.drew, ?_⟩
    have hz : ∀ z, Fr u2.heap.size No u2 z → z.heap[u.heap.size]? = some (.cells #[.string a, .slice B (Secs.bytes (X.fs[i]).2).length cb, .slice S (Secs.flags (X.fs[i]).2).length cs] 96 (0, 0)) := fun z hz => young_at hz ha
    have hbl := bytes_len h32
    have hcb : (Secs.bytes (X.fs[i]).2).length ≤ cb := by obtain ⟨A, c, e, hle⟩ := Sl.shape hbv2; injection e with _ _ e; omega
    refine opS_of (.pointer (some ⟨u.heap.size, 1, none⟩)) (fun z h0 K hK => by simp only [T.fa_52_0, T.ld_50, T.ia_50, T.ld_96, T.al_96, T.st_96, T.fa_96_1, T.ld_31, T.fa_96_2, T.ld_32, T.ln_32, T.bd_96_0_1_2, T.sl_31, T.fa_96_0, T.st_9, bx_eq, mm_eq, nc_eq, cnd_eq, bcond_true, bcond_false, pk_eq, pk_int, ex_eq, ldc_some, un_not, un_neg, mn_eq, mx_eq, bin_add, bin_sub, bin_mul, bin_lss, bin_leq, bin_gtr, bin_geq, bin_eql, bin_neq, bin_peq, bin_pne, bin_beq, bin_bne, bin_leqn, bin_lnen, bin_seq, bin_sne, bin_sge, bin_slt, rdc_cells, mapEs_some, frz_none, Nat.zero_add, Nat.add_zero, List.getElem?_toArray, List.getElem?_cons_zero, List.getElem?_cons_succ, Option.isNone_some, Option.isNone_none, Bool.not_true, Bool.not_false, ite_true, ite_false, Bool.false_eq_true, true_and, and_true, forall_const, false_implies, reduceCtorEq, Bool.true_eq_false, Nat.reduceAdd, Nat.reduceMul, Nat.reduceLT, Nat.reduceSub, Int.reduceEq, Int.reduceLT, decide_true, decide_false, List.setIfInBounds_toArray, List.set_cons_zero, List.set_cons_succ, List.size_toArray, List.length_cons, List.length_nil, frz00, one_int, one_bool, one_ptr, one_str, one_slice, one_map, one_func, one_nil, one_niliface, size_put, size_alloc, put_same, st1_put, bsc_empty, List.nil_append, List.append_nil, List.map_cons, List.map_nil, cells_ptr, cells_str, cells_int, cells_bool, cells_slice, cells_agg, cells_map, fillB_one, fillB_nil, bdc]; exact hK) ?_
    refine opS_of (.slice B (Secs.bytes (X.fs[i]).2).length cb) (fun z h0 K hK => by simp only [T.fa_52_0, T.ld_50, T.ia_50, T.ld_96, T.al_96, T.st_96, T.fa_96_1, T.ld_31, T.fa_96_2, T.ld_32, T.ln_32, T.bd_96_0_1_2, T.sl_31, T.fa_96_0, T.st_9, bx_eq, mm_eq, nc_eq, cnd_eq, bcond_true, bcond_false, pk_eq, pk_int, ex_eq, ldc_some, un_not, un_neg, mn_eq, mx_eq, bin_add, bin_sub, bin_mul, bin_lss, bin_leq, bin_gtr, bin_geq, bin_eql, bin_neq, bin_peq, bin_pne, bin_beq, bin_bne, bin_leqn, bin_lnen, bin_seq, bin_sne, bin_sge, bin_slt, rdc_cells, mapEs_some, frz_none, Nat.zero_add, Nat.add_zero, List.getElem?_toArray, List.getElem?_cons_zero, List.getElem?_cons_succ, Option.isNone_some, Option.isNone_none, Bool.not_true, Bool.not_false, ite_true, ite_false, Bool.false_eq_true, true_and, and_true, forall_const, false_implies, reduceCtorEq, Bool.true_eq_false, Nat.reduceAdd, Nat.reduceMul, Nat.reduceLT, Nat.reduceSub, Int.reduceEq, Int.reduceLT, decide_true, decide_false, List.setIfInBounds_toArray, List.set_cons_zero, List.set_cons_succ, List.size_toArray, List.length_cons, List.length_nil, frz00, one_int, one_bool, one_ptr, one_str, one_slice, one_map, one_func, one_nil, one_niliface, size_put, size_alloc, put_same, st1_put, bsc_empty, List.nil_append, List.append_nil, List.map_cons, List.map_nil, cells_ptr, cells_str, cells_int, cells_bool, cells_slice, cells_agg, cells_map, fillB_one, fillB_nil, bdc, hz z h0]; exact hK) ?_
    refine opS_of (.int .i64 ((32 * k : Nat) : Int)) (fun z h0 K hK => by
      simp only [T.fa_52_0, T.ld_50, T.ia_50, T.ld_96, T.al_96, T.st_96, T.fa_96_1, T.ld_31, T.fa_96_2, T.ld_32, T.ln_32, T.bd_96_0_1_2, T.sl_31, T.fa_96_0, T.st_9, bx_eq, mm_eq, nc_eq, cnd_eq, bcond_true, bcond_false, pk_eq, pk_int, ex_eq, ldc_some, un_not, un_neg, mn_eq, mx_eq, bin_add, bin_sub, bin_mul, bin_lss, bin_leq, bin_gtr, bin_geq, bin_eql, bin_neq, bin_peq, bin_pne, bin_beq, bin_bne, bin_leqn, bin_lnen, bin_seq, bin_sne, bin_sge, bin_slt, rdc_cells, mapEs_some, frz_none, Nat.zero_add, Nat.add_zero, List.getElem?_toArray, List.getElem?_cons_zero, List.getElem?_cons_succ, Option.isNone_some, Option.isNone_none, Bool.not_true, Bool.not_false, ite_true, ite_false, Bool.false_eq_true, true_and, and_true, forall_const, false_implies, reduceCtorEq, Bool.true_eq_false, Nat.reduceAdd, Nat.reduceMul, Nat.reduceLT, Nat.reduceSub, Int.reduceEq, Int.reduceLT, decide_true, decide_false, List.setIfInBounds_toArray, List.set_cons_zero, List.set_cons_succ, List.size_toArray, List.length_cons, List.length_nil, frz00, one_int, one_bool, one_ptr, one_str, one_slice, one_map, one_func, one_nil, one_niliface, size_put, size_alloc, put_same, st1_put, bsc_empty, List.nil_append, List.append_nil, List.map_cons, List.map_nil, cells_ptr, cells_str, cells_int, cells_bool, cells_slice, cells_agg, cells_map, fillB_one, fillB_nil, bdc]; rw [IntWalk.i64_in _ (by omega)]
      rw [show (32 : Int) * (k : Int) = ((32 * k : Nat) : Int) by omega]; exact hK) ?_
    have hsp := Sl.spot hbv2
    refine opS_of (.slice B (32 * k) cb) (fun z h0 K hK => by
      simp only [T.fa_52_0, T.ld_50, T.ia_50, T.ld_96, T.al_96, T.st_96, T.fa_96_1, T.ld_31, T.fa_96_2, T.ld_32, T.ln_32, T.bd_96_0_1_2, T.sl_31, T.fa_96_0, T.st_9, slc_pre (show 32 * k ≤ cb by omega)]
      rw [add_zero_mul hsp]; exact hK) ?_
    refine ref_flags (n := k) (show k < 2 ^ 36 by omega) fun v3 w3 ho3 hf3 => ⟨hf3, ?_⟩
    obtain ⟨A3, c3, rfl, _⟩ := ho3.sl.shape
    refine opS_of (.agg #[.string a, .slice B (32 * k) cb, .slice A3 k c3]) (fun z h0 K hK => by simp only [T.fa_52_0, T.ld_50, T.ia_50, T.ld_96, T.al_96, T.st_96, T.fa_96_1, T.ld_31, T.fa_96_2, T.ld_32, T.ln_32, T.bd_96_0_1_2, T.sl_31, T.fa_96_0, T.st_9, bx_eq, mm_eq, nc_eq, cnd_eq, bcond_true, bcond_false, pk_eq, pk_int, ex_eq, ldc_some, un_not, un_neg, mn_eq, mx_eq, bin_add, bin_sub, bin_mul, bin_lss, bin_leq, bin_gtr, bin_geq, bin_eql, bin_neq, bin_peq, bin_pne, bin_beq, bin_bne, bin_leqn, bin_lnen, bin_seq, bin_sne, bin_sge, bin_slt, rdc_cells, mapEs_some, frz_none, Nat.zero_add, Nat.add_zero, List.getElem?_toArray, List.getElem?_cons_zero, List.getElem?_cons_succ, Option.isNone_some, Option.isNone_none, Bool.not_true, Bool.not_false, ite_true, ite_false, Bool.false_eq_true, true_and, and_true, forall_const, false_implies, reduceCtorEq, Bool.true_eq_false, Nat.reduceAdd, Nat.reduceMul, Nat.reduceLT, Nat.reduceSub, Int.reduceEq, Int.reduceLT, decide_true, decide_false, List.setIfInBounds_toArray, List.set_cons_zero, List.set_cons_succ, List.size_toArray, List.length_cons, List.length_nil, frz00, one_int, one_bool, one_ptr, one_str, one_slice, one_map, one_func, one_nil, one_niliface, size_put, size_alloc, put_same, st1_put, bsc_empty, List.nil_append, List.append_nil, List.map_cons, List.map_nil, cells_ptr, cells_str, cells_int, cells_bool, cells_slice, cells_agg, cells_map, fillB_one, fillB_nil, bdc]; exact hK) ?_
    have hf3' : Fr u2.heap.size No u2 w3 := hf3
    have h3 := h2.young hf3'
    have hlk : ((X.fs[i]).2.take n).length = k := by rw [List.length_take]; exact hkk
    refine ref_put (f := (a, ((X.fs[i]).2.take n).map Sec.sync)) (cs := [.string a, .slice B (32 * k) cb, .slice A3 k c3]) h3 hl ⟨_, _, rfl, ?_, ?_, ?_⟩ fun w4 fv4 h4 _ hf4 => ?_
    · rw [bytes_sync]
      have h5 := Sl.take (hbv2.young hf3') (k := 32 * k) (by omega)
      have e5 : Secs.bytes ((X.fs[i]).2.take n) = (Secs.bytes (X.fs[i]).2).take (32 * k) := by
        rw [List.take_eq_take_min, hkk]; exact bytes_take h32 k
      show Sl _ _ _ _ _ _ _
      rw [e5, List.map_take, List.length_take, Nat.min_eq_left (by omega)]
      rw [Nat.mul_one] at h5; exact h5
    · rw [flags_sync, hlk]; unfold FlagsV; rw [List.length_replicate]; exact ho3.sl.mono fun _ _ _ => trivial
    · intro s hs; obtain ⟨y, hy, rfl⟩ := List.mem_map.1 hs; exact h32 y (List.mem_of_mem_take hy)
    · exact hR w4 fv4 (by simp only [Pend.carry, hg]; exact h4) ((((hf2.then hf3' hf2.1 fun _ _ h => h)).no (Nat.le_refl _)).then hf4 (Nat.le_trans hf2.1 hf3'.1) fun _ _ h => h)
  | ren a b' =>
    simp only [Pend.op, Pend.fst, Pend.snd, Pend.num, Int.reduceEq, decide_false, decide_true, bcond_false, bcond_true] at *
    refine ref_drop h2 hl fun w3 fv3 h3 hfv3 hf3 => ?_
    have hxt : u.heap.size ≠ x := fun e => by rw [e, h2.blk] at ha; injection ha with ha; injection ha with _ ha; cases ha
    have ha3 := hf3.at ha (lt_at ha) hxt
    have hrow3 : FileC w3 (a, (X.fs[i]).2) [.string a, .slice B (Secs.bytes (X.fs[i]).2).length cb, .slice S (Secs.flags (X.fs[i]).2).length cs] := FileC.fr ⟨_, _, rfl, hbv2, hsv2, h32⟩ hf3 fun b X' e f he hb => ⟨lt_at hb, by
      rintro rfl
      rw [h2.blk] at hb; injection hb with hb; injection hb with _ hb
      subst hb
      rcases he with he | he <;> cases he⟩
    simp only [T.fa_52_0, T.ld_50, T.ia_50, T.ld_96, T.al_96, T.st_96, T.fa_96_1, T.ld_31, T.fa_96_2, T.ld_32, T.ln_32, T.bd_96_0_1_2, T.sl_31, T.fa_96_0, T.st_9, bx_eq, mm_eq, nc_eq, cnd_eq, bcond_true, bcond_false, pk_eq, pk_int, ex_eq, ldc_some, un_not, un_neg, mn_eq, mx_eq, bin_add, bin_sub, bin_mul, bin_lss, bin_leq, bin_gtr, bin_geq, bin_eql, bin_neq, bin_peq, bin_pne, bin_beq, bin_bne, bin_leqn, bin_lnen, bin_seq, bin_sne, bin_sge, bin_slt, rdc_cells, mapEs_some, frz_none, Nat.zero_add, Nat.add_zero, List.getElem?_toArray, List.getElem?_cons_zero, List.getElem?_cons_succ, Option.isNone_some, Option.isNone_none, Bool.not_true, Bool.not_false, ite_true, ite_false, Bool.false_eq_true, true_and, and_true, forall_const, false_implies, reduceCtorEq, Bool.true_eq_false, Nat.reduceAdd, Nat.reduceMul, Nat.reduceLT, Nat.reduceSub, Int.reduceEq, Int.reduceLT, decide_true, decide_false, List.setIfInBounds_toArray, List.set_cons_zero, List.set_cons_succ, List.size_toArray, List.length_cons, List.length_nil, frz00, one_int, one_bool, one_ptr, one_str, one_slice, one_map, one_func, one_nil, one_niliface, size_put, size_alloc, put_same, st1_put, bsc_empty, List.nil_append, List.append_nil, List.map_cons, List.map_nil, cells_ptr, cells_str, cells_int, cells_bool, cells_slice, cells_agg, cells_map, fillB_one, fillB_nil, bdc, st1_at ha3]
    have ht3 := lt_at ha3
    generalize hw4 : w3.put u.heap.size (.cells #[.string b', .slice B (Secs.bytes (X.fs[i]).2).length cb, .slice S (Secs.flags (X.fs[i]).2).length cs] 96 (0, 0)) = w4
    have hf4 : Fr w3.heap.size (fun b => b = u.heap.size) w3 w4 := by rw [← hw4]; exact Fr.refl.put (.inl rfl)
    have ha4 : w4.heap[u.heap.size]? = some (.cells #[.string b', .slice B (Secs.bytes (X.fs[i]).2).length cb, .slice S (Secs.flags (X.fs[i]).2).length cs] 96 (0, 0)) := by rw [← hw4]; exact put_same ht3
    have hno : ∀ (b : Nat) (Y : Array Value) (e : TypeId) (f : Nat × Nat), e ≠ 96 → w3.heap[b]? = some (.cells Y e f) → b < w3.heap.size ∧ ¬ b = u.heap.size := fun b Y e f he hb => ⟨lt_at hb, by
      rintro rfl
      rw [ha3] at hb; injection hb with hb; injection hb with _ hb
      exact he hb.symm⟩
    have h4 : RkAt N w4 x { X with fs := X.fs.drop a } fv3 := by
      refine ⟨hf4.at h3.blk (lt_at h3.blk) (Ne.symm hxt), ?_, h.nx⟩
      obtain ⟨rows, r1, r2, r3⟩ := hfv3
      refine ⟨rows, r1.mono fun cs p _ _ hc => hc.fr hf4 fun b Y e f he hb => hno b Y e f (by rcases he with rfl | rfl <;> decide) hb, r2, (r3.fr hf4 fun b Y hN hb => ⟨lt_at hb, ?_⟩).mono fun _ hb _ => Nat.le_trans h2.le hb⟩
      have := lt_at ha
      omega
    have hrd4 : rdn (some (.cells #[.string b', .slice B (Secs.bytes (X.fs[i]).2).length cb, .slice S (Secs.flags (X.fs[i]).2).length cs] 96 (0, 0))) 0 3 = some #[.string b', .slice B (Secs.bytes (X.fs[i]).2).length cb, .slice S (Secs.flags (X.fs[i]).2).length cs] := rfl
    simp only [T.fa_52_0, T.ld_50, T.ia_50, T.ld_96, T.al_96, T.st_96, T.fa_96_1, T.ld_31, T.fa_96_2, T.ld_32, T.ln_32, T.bd_96_0_1_2, T.sl_31, T.fa_96_0, T.st_9, bx_eq, mm_eq, nc_eq, cnd_eq, bcond_true, bcond_false, pk_eq, pk_int, ex_eq, ldc_some, un_not, un_neg, mn_eq, mx_eq, bin_add, bin_sub, bin_mul, bin_lss, bin_leq, bin_gtr, bin_geq, bin_eql, bin_neq, bin_peq, bin_pne, bin_beq, bin_bne, bin_leqn, bin_lnen, bin_seq, bin_sne, bin_sge, bin_slt, rdc_cells, mapEs_some, frz_none, Nat.zero_add, Nat.add_zero, List.getElem?_toArray, List.getElem?_cons_zero, List.getElem?_cons_succ, Option.isNone_some, Option.isNone_none, Bool.not_true, Bool.not_false, ite_true, ite_false, Bool.false_eq_true, true_and, and_true, forall_const, false_implies, reduceCtorEq, Bool.true_eq_false, Nat.reduceAdd, Nat.reduceMul, Nat.reduceLT, Nat.reduceSub, Int.reduceEq, Int.reduceLT, decide_true, decide_false, List.setIfInBounds_toArray, List.set_cons_zero, List.set_cons_succ, List.size_toArray, List.length_cons, List.length_nil, frz00, one_int, one_bool, one_ptr, one_str, one_slice, one_map, one_func, one_nil, one_niliface, size_put, size_alloc, put_same, st1_put, bsc_empty, List.nil_append, List.append_nil, List.map_cons, List.map_nil, cells_ptr, cells_str, cells_int, cells_bool, cells_slice, cells_agg, cells_map, fillB_one, fillB_nil, bdc, ha4, hrd4, ldn]
    have hrow4 : FileC w4 (b', (X.fs[i]).2) [.string b', .slice B (Secs.bytes (X.fs[i]).2).length cb, .slice S (Secs.flags (X.fs[i]).2).length cs] := by
      obtain ⟨q1, q2, e, g1, g2, g3⟩ := hrow3.fr hf4 fun b Y e f he hb => hno b Y e f (by rcases he with rfl | rfl <;> decide) hb
      injection e with _ e; injection e with e1 e; injection e with e2 _
      subst e1; subst e2
      exact ⟨_, _, rfl, g1, g2, g3⟩
    refine ref_put h4 (Nat.lt_of_le_of_lt filter_len hl) hrow4 fun w5 fv5 h5 _ hf5 => ?_
    have hfx : Fr w.heap.size (fun b => b = x) w w4 := ((hf2.no (Nat.le_refl _)).then hf3 hf2.1 fun _ _ h => h).trans (hf4.mono (Nat.le_trans hf2.1 hf3.1) fun b hb hbe => by have := hf.1; omega)
    exact hR w5 fv5 (by simp only [Pend.carry, hg]; exact h5) (hfx.then hf5 hfx.1 fun _ _ h => h)
end Go.Proofs.YtppefblkmgihoaaDoor
