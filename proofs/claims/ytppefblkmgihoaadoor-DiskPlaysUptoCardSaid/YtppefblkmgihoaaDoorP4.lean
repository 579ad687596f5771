/- The law is awake: one run of the program's disk, in concrete. -/
import Derived.Test.YtppefblkmgihoaaDoorP3
import Derived.KernelRfl
set_option linter.unusedVariables false
set_option linter.unusedSimpArgs false
set_option maxRecDepth 10000
namespace Go.Proofs.YtppefblkmgihoaaDoor
open Go.Sh

theorem alloc_row {α : Type} {w : World} {e : TypeId} (f : α → Value) (l : List α) : Sl (fun _ => True) e 1 (w.alloc (.cells (l.map f).toArray e (0, 0))) (.slice (some ⟨w.heap.size, 0, none⟩) l.length l.length) l.length (l.map f) :=
  ⟨_, _, rfl, Nat.le_refl _, by simp, .inr ⟨_, _, _, (0, 0), rfl, trivial, alloc_at rfl, by simp, fun k hk => by simp⟩⟩

def zS : Sec := ⟨List.replicate 32 0, false⟩
def oS : Sec := ⟨7 :: List.replicate 31 0, false⟩
def nA : ByteArray := ⟨#[97]⟩
def nB : ByteArray := ⟨#[98]⟩
def W1 (m : Nat) : Dk := { m := m, fs := [(nA, [zS, zS])], room := 4, off := false, armed := 0, ops := 1, pend := .nothing }
def W2 (m : Nat) : Dk := { m := m, fs := [(nA, [zS, zS])], room := 4, off := false, armed := 1, ops := 1, pend := .nothing }
def W3 (m : Nat) : Dk := { m := m, fs := [(nA, [zS, zS, oS])], room := 4, off := true, armed := 0, ops := 2, pend := .nothing }
theorem a1 (m : Nat) : (Dk.fresh m 4).append nA (List.replicate 33 0) = (0, W1 m) := by kernel_rfl
theorem a2 (m : Nat) : (W1 m).append nB (List.replicate 96 0) = (17, W1 m) := by kernel_rfl
theorem a3 (m : Nat) : (W1 m).arm 1 = (0, W2 m) := by kernel_rfl
theorem a4 (m : Nat) : (W2 m).append nA [7] = (18, W3 m) := by kernel_rfl
theorem a5 (m : Nat) : ((W3 m).back false).fs = [(nA, [zS, zS, oS])] := by kernel_rfl
def fateA : List Sec := (fateRun [false, true, true] 0 [zS, zS, oS]).1
theorem a6 : (fateFs [false, true, true] [(nA, [zS, zS, oS])]).1 = [(nA, fateA)] := by kernel_rfl
theorem a7 (m : Nat) : ({ (W3 m).back false with fs := [(nA, fateA)] } : Dk).read nA = (Secs.bytes fateA, 0) := by kernel_rfl
theorem a8 : (Secs.bytes fateA).length = 96 ∧ (Secs.bytes fateA)[64]? = some 7 := by constructor <;> kernel_rfl
theorem nA_small : nA.size < 2 ^ 62 := by decide
theorem nB_small : nB.size < 2 ^ 62 := by decide
theorem g1 (m : Nat) : (Dk.fresh m 4).good := ⟨(fun p hp => by cases hp), by show 0 < 2 ^ 63; decide⟩
theorem g2 (m : Nat) : (W1 m).good := ⟨(fun p hp => by
  obtain rfl := List.mem_singleton.1 hp
  show (2 : Nat) < 2 ^ 36; decide), by show 0 < 2 ^ 63; decide⟩
theorem g3 (m : Nat) : (W2 m).good := ⟨(fun p hp => by
  obtain rfl := List.mem_singleton.1 hp
  show (2 : Nat) < 2 ^ 36; decide), by show 1 < 2 ^ 63; decide⟩
theorem g4 (m : Nat) : (W3 m).good := ⟨(fun p hp => by
  obtain rfl := List.mem_singleton.1 hp
  show (3 : Nat) < 2 ^ 36; decide), by show 0 < 2 ^ 63; decide⟩

theorem awake {w : World} {R : Value → World → Prop} (hR : ∀ w', Fr w.heap.size No w w' → R (.bool true) w') : cl Tryd.prog 4 #[] w R := by
  refine C.l09_awake ?_
  unfold F.l09_awake
  refine disk_New (fun h => by omega) fun _ _ d m w1 hd hm h1 hf1 => ?_
  simp only [ex_eq, List.getElem?_toArray, List.getElem?_cons_zero, List.getElem?_cons_succ, ldc_some]
  have hown : ∀ {z z' : World} {D : Dk}, D.m = m → Fr w.heap.size No w z → Fr z.heap.size (D.own d) z z' → Fr w.heap.size No w z' := fun hDm h h' => h.then h' h.1 fun b hb hx => by
    rcases hx with rfl | rfl
    · omega
    · rw [hDm] at hb; omega
  refine ⟨fun s z => Fr w.heap.size No w z ∧ IsDk z d (W3 m), ?_, ?_⟩
  · simp only [T.ty_24, T.mk_31, T.bs_31_1, T.bs_32_3, T.bd_44_1, T.ln_31, T.ia_31, T.ld_5, bx_eq, mm_eq, nc_eq, cnd_eq, bcond_true, bcond_false, pk_eq, pk_int, ex_eq, ldc_some, un_not, un_neg, mn_eq, mx_eq, bin_add, bin_sub, bin_mul, bin_lss, bin_leq, bin_gtr, bin_geq, bin_eql, bin_neq, bin_peq, bin_pne, bin_beq, bin_bne, bin_leqn, bin_lnen, bin_seq, bin_sne, bin_sge, bin_slt, rdc_cells, mapEs_some, frz_none, Nat.zero_add, Nat.add_zero, List.getElem?_toArray, List.getElem?_cons_zero, List.getElem?_cons_succ, Option.isNone_some, Option.isNone_none, Bool.not_true, Bool.not_false, ite_true, ite_false, Bool.false_eq_true, true_and, and_true, forall_const, false_implies, reduceCtorEq, Bool.true_eq_false, Nat.reduceAdd, Nat.reduceMul, Nat.reduceLT, Nat.reduceSub, Int.reduceEq, Int.reduceLT, decide_true, decide_false, List.setIfInBounds_toArray, List.set_cons_zero, List.set_cons_succ, List.size_toArray, List.length_cons, List.length_nil, frz00, one_int, one_bool, one_ptr, one_str, one_slice, one_map, one_func, one_nil, one_niliface, size_put, size_alloc, put_same, st1_put, bsc_empty, List.nil_append, List.append_nil, List.map_cons, List.map_nil, cells_ptr, cells_str, cells_int, cells_bool, cells_slice, cells_agg, cells_map, fillB_one, fillB_nil, bdc]
    simp (config := { decide := true }) only [true_and]
    -- 33 bytes
    have hfa : Fr w1.heap.size No w1 (w1.alloc (.cells (zeros #[.int .u8 0] (Int.toNat 33)).toArray 5)) := Fr.refl.alloc (Nat.le_refl _)
    refine disk_Append (a := nA) (ps := List.replicate 33 0) (h1.young hfa) nA_small (g1 m) (by show (0 : Nat) < 2 ^ 36; decide) (by show (0 : Nat) < 2 ^ 36; decide) (BytesV.a (alloc_row (fun b : UInt8 => Value.int .u8 b.toNat) (List.replicate 33 0))) (by show (33 : Nat) < 2 ^ 36; decide) fun w2 h2 hf2 => ?_
    rw [a1] at h2 ⊢
    have hf2 := hown rfl (hf1.trans (hfa.no hf1.1)) hf2
    simp only [bx_eq, mm_eq, nc_eq, cnd_eq, bcond_true, bcond_false, pk_eq, pk_int, ex_eq, ldc_some, un_not, un_neg, mn_eq, mx_eq, bin_add, bin_sub, bin_mul, bin_lss, bin_leq, bin_gtr, bin_geq, bin_eql, bin_neq, bin_peq, bin_pne, bin_beq, bin_bne, bin_leqn, bin_lnen, bin_seq, bin_sne, bin_sge, bin_slt, rdc_cells, mapEs_some, frz_none, Nat.zero_add, Nat.add_zero, List.getElem?_toArray, List.getElem?_cons_zero, List.getElem?_cons_succ, Option.isNone_some, Option.isNone_none, Bool.not_true, Bool.not_false, ite_true, ite_false, Bool.false_eq_true, true_and, and_true, forall_const, false_implies, reduceCtorEq, Bool.true_eq_false, Nat.reduceAdd, Nat.reduceMul, Nat.reduceLT, Nat.reduceSub, Int.reduceEq, Int.reduceLT, decide_true, decide_false, List.setIfInBounds_toArray, List.set_cons_zero, List.set_cons_succ, List.size_toArray, List.length_cons, List.length_nil, frz00, one_int, one_bool, one_ptr, one_str, one_slice, one_map, one_func, one_nil, one_niliface, size_put, size_alloc, put_same, st1_put, bsc_empty, List.nil_append, List.append_nil, List.map_cons, List.map_nil, cells_ptr, cells_str, cells_int, cells_bool, cells_slice, cells_agg, cells_map, fillB_one, fillB_nil, bdc]
    -- 96 bytes
    have hfa : Fr w2.heap.size No w2 (w2.alloc (.cells (zeros #[.int .u8 0] (Int.toNat 96)).toArray 5)) := Fr.refl.alloc (Nat.le_refl _)
    refine disk_Append (a := nB) (ps := List.replicate 96 0) (h2.young hfa) nB_small (g2 m) (by show (2 : Nat) < 2 ^ 36; decide) (by show (1 : Nat) < 2 ^ 36; decide) (BytesV.a (alloc_row (fun b : UInt8 => Value.int .u8 b.toNat) (List.replicate 96 0))) (by show (96 : Nat) < 2 ^ 36; decide) fun w3 h3 hf3 => ?_
    rw [a2] at h3 ⊢
    have hf3 := hown rfl (hf2.trans (hfa.no hf2.1)) hf3
    simp only [bx_eq, mm_eq, nc_eq, cnd_eq, bcond_true, bcond_false, pk_eq, pk_int, ex_eq, ldc_some, un_not, un_neg, mn_eq, mx_eq, bin_add, bin_sub, bin_mul, bin_lss, bin_leq, bin_gtr, bin_geq, bin_eql, bin_neq, bin_peq, bin_pne, bin_beq, bin_bne, bin_leqn, bin_lnen, bin_seq, bin_sne, bin_sge, bin_slt, rdc_cells, mapEs_some, frz_none, Nat.zero_add, Nat.add_zero, List.getElem?_toArray, List.getElem?_cons_zero, List.getElem?_cons_succ, Option.isNone_some, Option.isNone_none, Bool.not_true, Bool.not_false, ite_true, ite_false, Bool.false_eq_true, true_and, and_true, forall_const, false_implies, reduceCtorEq, Bool.true_eq_false, Nat.reduceAdd, Nat.reduceMul, Nat.reduceLT, Nat.reduceSub, Int.reduceEq, Int.reduceLT, decide_true, decide_false, List.setIfInBounds_toArray, List.set_cons_zero, List.set_cons_succ, List.size_toArray, List.length_cons, List.length_nil, frz00, one_int, one_bool, one_ptr, one_str, one_slice, one_map, one_func, one_nil, one_niliface, size_put, size_alloc, put_same, st1_put, bsc_empty, List.nil_append, List.append_nil, List.map_cons, List.map_nil, cells_ptr, cells_str, cells_int, cells_bool, cells_slice, cells_agg, cells_map, fillB_one, fillB_nil, bdc]
    refine disk_Arm h3 fun w4 h4 hf4 => ?_
    rw [a3] at h4 ⊢
    have hf4 := hown rfl hf3 hf4
    have hb1 : ∀ K, bsc 1 1 #[.int .u8 0] #[(0, .int .u8 7)] K = K #[.int .u8 7] := fun K => rfl
    simp only [bx_eq, mm_eq, nc_eq, cnd_eq, bcond_true, bcond_false, pk_eq, pk_int, ex_eq, ldc_some, un_not, un_neg, mn_eq, mx_eq, bin_add, bin_sub, bin_mul, bin_lss, bin_leq, bin_gtr, bin_geq, bin_eql, bin_neq, bin_peq, bin_pne, bin_beq, bin_bne, bin_leqn, bin_lnen, bin_seq, bin_sne, bin_sge, bin_slt, rdc_cells, mapEs_some, frz_none, Nat.zero_add, Nat.add_zero, List.getElem?_toArray, List.getElem?_cons_zero, List.getElem?_cons_succ, Option.isNone_some, Option.isNone_none, Bool.not_true, Bool.not_false, ite_true, ite_false, Bool.false_eq_true, true_and, and_true, forall_const, false_implies, reduceCtorEq, Bool.true_eq_false, Nat.reduceAdd, Nat.reduceMul, Nat.reduceLT, Nat.reduceSub, Int.reduceEq, Int.reduceLT, decide_true, decide_false, List.setIfInBounds_toArray, List.set_cons_zero, List.set_cons_succ, List.size_toArray, List.length_cons, List.length_nil, frz00, one_int, one_bool, one_ptr, one_str, one_slice, one_map, one_func, one_nil, one_niliface, size_put, size_alloc, put_same, st1_put, bsc_empty, List.nil_append, List.append_nil, List.map_cons, List.map_nil, cells_ptr, cells_str, cells_int, cells_bool, cells_slice, cells_agg, cells_map, fillB_one, fillB_nil, bdc, hb1]
    have hfa : Fr w4.heap.size No w4 (w4.alloc (.cells #[.int .u8 7] 5)) := Fr.refl.alloc (Nat.le_refl _)
    refine disk_Append (a := nA) (ps := [7]) (h4.young hfa) nA_small (g3 m) (by show (2 : Nat) < 2 ^ 36; decide) (by show (1 : Nat) < 2 ^ 36; decide) (BytesV.a (alloc_row (fun b : UInt8 => Value.int .u8 b.toNat) [7])) (by show (1 : Nat) < 2 ^ 36; decide) fun w5 h5 hf5 => ?_
    rw [a4] at h5 ⊢
    have hf5 := hown rfl (hf4.trans (hfa.no hf4.1)) hf5
    simp only [bx_eq, mm_eq, nc_eq, cnd_eq, bcond_true, bcond_false, pk_eq, pk_int, ex_eq, ldc_some, un_not, un_neg, mn_eq, mx_eq, bin_add, bin_sub, bin_mul, bin_lss, bin_leq, bin_gtr, bin_geq, bin_eql, bin_neq, bin_peq, bin_pne, bin_beq, bin_bne, bin_leqn, bin_lnen, bin_seq, bin_sne, bin_sge, bin_slt, rdc_cells, mapEs_some, frz_none, Nat.zero_add, Nat.add_zero, List.getElem?_toArray, List.getElem?_cons_zero, List.getElem?_cons_succ, Option.isNone_some, Option.isNone_none, Bool.not_true, Bool.not_false, ite_true, ite_false, Bool.false_eq_true, true_and, and_true, forall_const, false_implies, reduceCtorEq, Bool.true_eq_false, Nat.reduceAdd, Nat.reduceMul, Nat.reduceLT, Nat.reduceSub, Int.reduceEq, Int.reduceLT, decide_true, decide_false, List.setIfInBounds_toArray, List.set_cons_zero, List.set_cons_succ, List.size_toArray, List.length_cons, List.length_nil, frz00, one_int, one_bool, one_ptr, one_str, one_slice, one_map, one_func, one_nil, one_niliface, size_put, size_alloc, put_same, st1_put, bsc_empty, List.nil_append, List.append_nil, List.map_cons, List.map_nil, cells_ptr, cells_str, cells_int, cells_bool, cells_slice, cells_agg, cells_map, fillB_one, fillB_nil, bdc]
    refine disk_On h5 ?_
    have e1 : (!(W3 m).off) = false := rfl
    have e2 : (W3 m).ops = 2 := rfl
    simp only [e1, bx_eq, mm_eq, nc_eq, cnd_eq, bcond_true, bcond_false, pk_eq, pk_int, ex_eq, ldc_some, un_not, un_neg, mn_eq, mx_eq, bin_add, bin_sub, bin_mul, bin_lss, bin_leq, bin_gtr, bin_geq, bin_eql, bin_neq, bin_peq, bin_pne, bin_beq, bin_bne, bin_leqn, bin_lnen, bin_seq, bin_sne, bin_sge, bin_slt, rdc_cells, mapEs_some, frz_none, Nat.zero_add, Nat.add_zero, List.getElem?_toArray, List.getElem?_cons_zero, List.getElem?_cons_succ, Option.isNone_some, Option.isNone_none, Bool.not_true, Bool.not_false, ite_true, ite_false, Bool.false_eq_true, true_and, and_true, forall_const, false_implies, reduceCtorEq, Bool.true_eq_false, Nat.reduceAdd, Nat.reduceMul, Nat.reduceLT, Nat.reduceSub, Int.reduceEq, Int.reduceLT, decide_true, decide_false, List.setIfInBounds_toArray, List.set_cons_zero, List.set_cons_succ, List.size_toArray, List.length_cons, List.length_nil, frz00, one_int, one_bool, one_ptr, one_str, one_slice, one_map, one_func, one_nil, one_niliface, size_put, size_alloc, put_same, st1_put, bsc_empty, List.nil_append, List.append_nil, List.map_cons, List.map_nil, cells_ptr, cells_str, cells_int, cells_bool, cells_slice, cells_agg, cells_map, fillB_one, fillB_nil, bdc]
    refine disk_Ops h5 ?_
    simp only [e2, bx_eq, mm_eq, nc_eq, cnd_eq, bcond_true, bcond_false, pk_eq, pk_int, ex_eq, ldc_some, un_not, un_neg, mn_eq, mx_eq, bin_add, bin_sub, bin_mul, bin_lss, bin_leq, bin_gtr, bin_geq, bin_eql, bin_neq, bin_peq, bin_pne, bin_beq, bin_bne, bin_leqn, bin_lnen, bin_seq, bin_sne, bin_sge, bin_slt, rdc_cells, mapEs_some, frz_none, Nat.zero_add, Nat.add_zero, List.getElem?_toArray, List.getElem?_cons_zero, List.getElem?_cons_succ, Option.isNone_some, Option.isNone_none, Bool.not_true, Bool.not_false, ite_true, ite_false, Bool.false_eq_true, true_and, and_true, forall_const, false_implies, reduceCtorEq, Bool.true_eq_false, Nat.reduceAdd, Nat.reduceMul, Nat.reduceLT, Nat.reduceSub, Int.reduceEq, Int.reduceLT, decide_true, decide_false, List.setIfInBounds_toArray, List.set_cons_zero, List.set_cons_succ, List.size_toArray, List.length_cons, List.length_nil, frz00, one_int, one_bool, one_ptr, one_str, one_slice, one_map, one_func, one_nil, one_niliface, size_put, size_alloc, put_same, st1_put, bsc_empty, List.nil_append, List.append_nil, List.map_cons, List.map_nil, cells_ptr, cells_str, cells_int, cells_bool, cells_slice, cells_agg, cells_map, fillB_one, fillB_nil, bdc]
    exact ⟨hf5, h5⟩
  · rintro g z ⟨hfz, hz⟩
    have hb3 : ∀ K, bsc 3 1 #[.bool false] #[(0, .bool false), (1, .bool true), (2, .bool true)] K = K #[.bool false, .bool true, .bool true] := fun K => rfl
    simp only [T.ty_24, T.mk_31, T.bs_31_1, T.bs_32_3, T.bd_44_1, T.ln_31, T.ia_31, T.ld_5, hb3]
    rw [bdc_some (cs := #[.bool false, .slice (some ⟨z.heap.size, 0, none⟩) 3 3]) (by rw [fillB_one rfl (by simp), fillB_nil]; rfl)]
    have hfa : Fr z.heap.size No z (z.alloc (.cells #[.bool false, .bool true, .bool true] 4)) := Fr.refl.alloc (Nat.le_refl _)
    refine disk_Restart (keep := [false, true, true]) (hz.young hfa) (g4 m) (alloc_row (fun b : Bool => Value.bool b) [false, true, true]) (by show (3 : Nat) < 2 ^ 36; decide) (fun h => by cases h) fun _ => ⟨?_, ?_, ?_, [(nA, [zS, zS, oS])], ?_, ?_, ?_⟩
    · rw [a5]; intro p hp
      obtain rfl := List.mem_singleton.1 hp
      show (3 : Nat) < 2 ^ 36; decide
    · rw [a5]; show (3 : Nat) < 2 ^ 36; decide
    · rw [a5]; show (1 : Nat) < 2 ^ 36; decide
    · rw [a5]
    · exact List.pairwise_singleton _ _
    intro w2 fs' hfs h2 hf2
    rw [a6] at hfs
    obtain rfl := List.perm_singleton.1 hfs
    have hf2 := hown rfl (hfz.trans (hfa.no hfz.1)) hf2
    refine disk_Read (a := nA) h2 nA_small ⟨fun p hp => ?_, by show 0 < 2 ^ 63; decide⟩ fun w3 v hf3 hO => ?_
    · obtain rfl := List.mem_singleton.1 hp
      show (3 : Nat) < 2 ^ 36; decide
    rw [a7] at hO ⊢
    simp only [ex_eq, List.getElem?_toArray, List.getElem?_cons_zero, List.getElem?_cons_succ, ldc_some]
    have hOl := hO.v
    obtain ⟨b, o, c, X, f, rfl, _, hb, hs, hX⟩ := Sl.at hOl (i := 64) (by rw [a8.1]; decide)
    have hX64 : X[o + 64]? = some (.int .u8 7) := by
      rw [hX 64 (by rw [a8.1]; decide), List.getElem?_map, a8.2]; rfl
    rw [a8.1]
    have e64 : Int.toNat 64 * 1 = 64 := rfl
    simp only [T.ty_24, T.mk_31, T.bs_31_1, T.bs_32_3, T.bd_44_1, T.ln_31, T.ia_31, T.ld_5, bx_eq, mm_eq, nc_eq, cnd_eq, bcond_true, bcond_false, pk_eq, pk_int, ex_eq, ldc_some, un_not, un_neg, mn_eq, mx_eq, bin_add, bin_sub, bin_mul, bin_lss, bin_leq, bin_gtr, bin_geq, bin_eql, bin_neq, bin_peq, bin_pne, bin_beq, bin_bne, bin_leqn, bin_lnen, bin_seq, bin_sne, bin_sge, bin_slt, rdc_cells, mapEs_some, frz_none, Nat.zero_add, Nat.add_zero, List.getElem?_toArray, List.getElem?_cons_zero, List.getElem?_cons_succ, Option.isNone_some, Option.isNone_none, Bool.not_true, Bool.not_false, ite_true, ite_false, Bool.false_eq_true, true_and, and_true, forall_const, false_implies, reduceCtorEq, Bool.true_eq_false, Nat.reduceAdd, Nat.reduceMul, Nat.reduceLT, Nat.reduceSub, Int.reduceEq, Int.reduceLT, decide_true, decide_false, List.setIfInBounds_toArray, List.set_cons_zero, List.set_cons_succ, List.size_toArray, List.length_cons, List.length_nil, frz00, one_int, one_bool, one_ptr, one_str, one_slice, one_map, one_func, one_nil, one_niliface, size_put, size_alloc, put_same, st1_put, bsc_empty, List.nil_append, List.append_nil, List.map_cons, List.map_nil, cells_ptr, cells_str, cells_int, cells_bool, cells_slice, cells_agg, cells_map, fillB_one, fillB_nil, bdc, e64, hb, hX64]
    refine ⟨by decide, by decide, ?_⟩
    simpa using hR _ (hf2.trans (hf3.no hf2.1))
end Go.Proofs.YtppefblkmgihoaaDoor
