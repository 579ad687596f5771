/- Own lists of bytes and flags; Spare and Kept. -/
import Derived.Test.YtppefblkmgihoaaDoorR8
set_option linter.unusedVariables false
set_option linter.unusedSimpArgs false
set_option maxRecDepth 10000
namespace Go.Proofs.YtppefblkmgihoaaDoor
open Go.Sh

def OwB (N : Nat) (w : World) (bs : List UInt8) (v : Value) : Prop := Ow N 5 1 w v bs.length (bs.map fun b => .int .u8 b.toNat)
theorem OwB.v {N : Nat} {w : World} {bs : List UInt8} {v : Value} (h : OwB N w bs v) : BytesV w bs v := Ow.sl h |>.mono fun _ _ _ => trivial
theorem OwB.young {N : Nat} {w w' : World} {bs : List UInt8} {v : Value} (h : OwB N w bs v) (hf : Fr w.heap.size No w w') : OwB N w' bs v := Ow.fr h hf fun _ _ _ _ => no_not
theorem OwB.shape {N : Nat} {w : World} {bs : List UInt8} {v : Value} (h : OwB N w bs v) : ∃ A c, v = .slice A bs.length c := h.v.shape
theorem byte_one (bs : List UInt8) : ∀ u ∈ bs.map (fun b => Value.int .u8 b.toNat), u.oneCell' = true := by
  intro u hu; obtain ⟨b, _, rfl⟩ := List.mem_map.1 hu; rfl
/-- An empty list that was just made. -/
theorem OwB.made (w : World) : OwB w.heap.size (w.alloc (.cells #[] 5)) [] (.slice (some ⟨w.heap.size, 0, none⟩) 0 0) := ⟨_, 0, rfl, Nat.le_refl _, rfl, .inr ⟨w.heap.size, 0, #[], rfl, Nat.le_refl _, alloc_at rfl, by simp, by simp⟩⟩
theorem OwB.app {N : Nat} {w : World} {bs cs : List UInt8} {A : Option Addr} {c : Nat} {x : Value} {K : Value → World → Prop} (h : OwB N w bs (.slice A bs.length c)) {B : Nat → Prop} {xe : TypeId} (hx : Sl B xe 1 w x cs.length (cs.map fun b => .int .u8 b.toNat)) (hN : N ≤ w.heap.size) (hb : bs.length < 2 ^ 42) (hc : cs.length < 2 ^ 42)
    (hK : ∀ v' w', OwB N w' (bs ++ cs) v' → Fr N No w w' → Fr w.heap.size (fun b => ∃ o, A = some ⟨b, o, none⟩) w w' → K v' w') : apc 5 1 1 #[.int .u8 0] A bs.length c (src w 1 x) w K := by
  rw [src_sl hx]
  refine ap_own h rfl (by decide) (by simp) (byte_one cs) hN (by omega) (by omega) fun A' c' w' ho hof => ?_
  refine hK _ w' ?_ (hof.fr hN) (hof.mono (Nat.le_refl _) fun b _ hb => hb.2.2)
  show Ow _ _ _ _ _ _ _
  rw [List.length_append, List.map_append]; exact ho

/-- Bytes in new memory, and the whole of it with three more. -/
theorem spare {w : World} {bs : List UInt8} {v : Value} (h : BytesA No w bs v) (hl : small bs.length) {R : Value → World → Prop}
    (hR : ∀ A c w', OwB w.heap.size w' (bs ++ [0xa5, 0x5a, 0xa5]) (.slice A (bs.length + 3) c) → Fr w.heap.size No w w' → R (.tuple #[.slice A bs.length c, .slice A (bs.length + 3) c]) w') : cl Tryd.prog 15 #[v] w R := by
  have hl : bs.length < 2 ^ 36 := hl
  obtain ⟨xe, h⟩ := h
  obtain ⟨A0, c0, rfl, _⟩ := Sl.shape h
  refine C.r01_Spare ?_
  unfold F.r01_Spare
  simp only [T.bs_31_0, T.ap_31_31, T.bs_31_3, T.ln_31, T.sl_31, bx_eq, mm_eq, nc_eq, cnd_eq, bcond_true, bcond_false, pk_eq, pk_int, ex_eq, ldc_some, un_not, un_neg, mn_eq, mx_eq, bin_add, bin_sub, bin_mul, bin_lss, bin_leq, bin_gtr, bin_geq, bin_eql, bin_neq, bin_peq, bin_pne, bin_beq, bin_bne, bin_leqn, bin_lnen, bin_seq, bin_sne, bin_sge, bin_slt, rdc_cells, mapEs_some, frz_none, Nat.zero_add, Nat.add_zero, List.getElem?_toArray, List.getElem?_cons_zero, List.getElem?_cons_succ, Option.isNone_some, Option.isNone_none, Bool.not_true, Bool.not_false, ite_true, ite_false, Bool.false_eq_true, true_and, and_true, forall_const, false_implies, reduceCtorEq, Bool.true_eq_false, Nat.reduceAdd, Nat.reduceMul, Nat.reduceLT, Nat.reduceSub, Int.reduceEq, Int.reduceLT, decide_true, decide_false, List.setIfInBounds_toArray, List.set_cons_zero, List.set_cons_succ, List.size_toArray, List.length_cons, List.length_nil, frz00, one_int, one_bool, one_ptr, one_str, one_slice, one_map, one_func, one_nil, one_niliface, size_put, size_alloc, put_same, st1_put, bsc_empty, List.nil_append, List.append_nil, List.map_cons, List.map_nil, cells_ptr, cells_str, cells_int, cells_bool, cells_slice, cells_agg, cells_map, fillB_one, fillB_nil, bdc]
  have hf0 : Fr w.heap.size No w (w.alloc (.cells #[] 5)) := Fr.refl.alloc (Nat.le_refl _)
  refine OwB.app (OwB.made w) (h.young hf0) hf0.1 (by simp) (by omega) fun v1 w1 h1 hf1 _ => ?_
  have hf1 := hf0.then hf1 (Nat.le_refl _) fun _ _ h => h
  rw [List.nil_append] at h1
  obtain ⟨A1, c1, rfl⟩ := h1.shape
  have hb3 : ∀ K, bsc 3 1 #[.int .u8 0] #[(0, .int .u8 165), (1, .int .u8 90), (2, .int .u8 165)] K = K #[.int .u8 165, .int .u8 90, .int .u8 165] := fun K => rfl
  simp only [T.bs_31_0, T.ap_31_31, T.bs_31_3, T.ln_31, T.sl_31, hb3]
  have hf2 : Fr w1.heap.size No w1 (w1.alloc (.cells #[.int .u8 165, .int .u8 90, .int .u8 165] 5 (0, 0))) := Fr.refl.alloc (Nat.le_refl _)
  have hx : BytesV (w1.alloc (.cells #[.int .u8 165, .int .u8 90, .int .u8 165] 5 (0, 0))) [0xa5, 0x5a, 0xa5] (.slice (some ⟨w1.heap.size, 0, none⟩) 3 3) := ⟨_, 3, rfl, Nat.le_refl _, rfl, .inr ⟨w1.heap.size, 0, _, (0, 0), rfl, trivial, alloc_at rfl, by simp, fun k hk => by
    have hk : k < 3 := by simpa using hk
    rcases k with _ | _ | _ | k
    · rfl
    · rfl
    · rfl
    · omega⟩⟩
  refine OwB.app (h1.young hf2) hx (by rw [size_alloc]; have := hf1.1; omega) (by omega) (by simp) fun v3 w3 h3 hf3 _ => ?_
  obtain ⟨A3, c3, rfl⟩ := h3.shape
  have hsp := Sl.spot h3.v
  have hc3 : bs.length ≤ c3 := by obtain ⟨A, c, e, hle⟩ := Sl.shape h3.v; injection e with _ _ e; simp at hle; omega
  simp only [List.length_append, List.length_cons, List.length_nil, Nat.reduceAdd] at h3 hsp ⊢
  simp only [T.bs_31_0, T.ap_31_31, T.bs_31_3, T.ln_31, T.sl_31, slc_pre hc3]
  rw [add_zero_mul hsp]
  exact hR A3 c3 w3 h3 ((hf1.trans (hf2.no hf1.1)).trans hf3)
theorem kept {w : World} {bs : List UInt8} {v1 v2 : Value} (h1 : BytesV w (bs ++ [0xa5, 0x5a, 0xa5]) v1) (h2 : BytesA No w bs v2) (hl : small bs.length) {R : Value → World → Prop}
    (hR : ∀ w', Fr w.heap.size No w w' → R (.bool true) w') : cl Tryd.prog 16 #[v1, v2] w R := by
  have hl : bs.length < 2 ^ 36 := hl
  obtain ⟨te, h2⟩ := h2
  obtain ⟨A2, c2, rfl, _⟩ := Sl.shape h2
  obtain ⟨b, o, c1, X, f, rfl, _, hb, hs, hX⟩ := Sl.at h1 (i := 0) (by simp)
  have hlen : (bs ++ [0xa5, 0x5a, 0xa5] : List UInt8).length = bs.length + 3 := by simp
  refine C.r01_Kept ?_
  unfold F.r01_Kept
  have hc1 : bs.length ≤ c1 := by obtain ⟨A, c, e, hle⟩ := Sl.shape h1; injection e with _ _ e; omega
  have e1 : IntKind.i64.wrap ((bs.length : Int) + 3) = ((bs.length + 3 : Nat) : Int) := by rw [IntWalk.i64_in _ (by omega)]; omega
  have e2 : IntKind.i64.wrap ((bs.length : Int) + 1) = ((bs.length + 1 : Nat) : Int) := by rw [IntWalk.i64_in _ (by omega)]; omega
  have e3 : IntKind.i64.wrap ((bs.length : Int) + 2) = ((bs.length + 2 : Nat) : Int) := by rw [IntWalk.i64_in _ (by omega)]; omega
  have hsp := Sl.spot h1
  have hpre : BytesV w bs (.slice (some ⟨b, o, none⟩) bs.length c1) := by
    have := Sl.take h1 (k := bs.length) (by omega)
    show Sl _ _ _ _ _ _ _
    simpa using this
  simp only [T.ln_31, T.sl_31, T.ia_31, T.ld_5, bx_eq, mm_eq, nc_eq, cnd_eq, bcond_true, bcond_false, pk_eq, pk_int, ex_eq, ldc_some, un_not, un_neg, mn_eq, mx_eq, bin_add, bin_sub, bin_mul, bin_lss, bin_leq, bin_gtr, bin_geq, bin_eql, bin_neq, bin_peq, bin_pne, bin_beq, bin_bne, bin_leqn, bin_lnen, bin_seq, bin_sne, bin_sge, bin_slt, rdc_cells, mapEs_some, frz_none, Nat.zero_add, Nat.add_zero, List.getElem?_toArray, List.getElem?_cons_zero, List.getElem?_cons_succ, Option.isNone_some, Option.isNone_none, Bool.not_true, Bool.not_false, ite_true, ite_false, Bool.false_eq_true, true_and, and_true, forall_const, false_implies, reduceCtorEq, Bool.true_eq_false, Nat.reduceAdd, Nat.reduceMul, Nat.reduceLT, Nat.reduceSub, Int.reduceEq, Int.reduceLT, decide_true, decide_false, List.setIfInBounds_toArray, List.set_cons_zero, List.set_cons_succ, List.size_toArray, List.length_cons, List.length_nil, frz00, one_int, one_bool, one_ptr, one_str, one_slice, one_map, one_func, one_nil, one_niliface, size_put, size_alloc, put_same, st1_put, bsc_empty, List.nil_append, List.append_nil, List.map_cons, List.map_nil, cells_ptr, cells_str, cells_int, cells_bool, cells_slice, cells_agg, cells_map, fillB_one, fillB_nil, bdc, hlen, e1, slc_pre hc1]
  have hz := add_zero_mul (sz := 1) (m := c1) hsp
  simp only [Nat.zero_mul] at hz
  rw [hz]
  refine same_bytes (BytesV.a hpre) ⟨te, h2⟩ hl fun w' hf => ?_
  have hbw := young_at hf hb
  have g0 : X[o + bs.length]? = some (.int .u8 165) := by rw [hX bs.length (by omega)]; simp
  have g1 : X[o + (bs.length + 1)]? = some (.int .u8 90) := by rw [hX (bs.length + 1) (by omega)]; simp
  have g2 : X[o + (bs.length + 2)]? = some (.int .u8 165) := by rw [hX (bs.length + 2) (by omega)]; simp
  simp only [T.ln_31, T.sl_31, T.ia_31, T.ld_5, bx_eq, mm_eq, nc_eq, cnd_eq, bcond_true, bcond_false, pk_eq, pk_int, ex_eq, ldc_some, un_not, un_neg, mn_eq, mx_eq, bin_add, bin_sub, bin_mul, bin_lss, bin_leq, bin_gtr, bin_geq, bin_eql, bin_neq, bin_peq, bin_pne, bin_beq, bin_bne, bin_leqn, bin_lnen, bin_seq, bin_sne, bin_sge, bin_slt, rdc_cells, mapEs_some, frz_none, Nat.zero_add, Nat.add_zero, List.getElem?_toArray, List.getElem?_cons_zero, List.getElem?_cons_succ, Option.isNone_some, Option.isNone_none, Bool.not_true, Bool.not_false, ite_true, ite_false, Bool.false_eq_true, true_and, and_true, forall_const, false_implies, reduceCtorEq, Bool.true_eq_false, Nat.reduceAdd, Nat.reduceMul, Nat.reduceLT, Nat.reduceSub, Int.reduceEq, Int.reduceLT, decide_true, decide_false, List.setIfInBounds_toArray, List.set_cons_zero, List.set_cons_succ, List.size_toArray, List.length_cons, List.length_nil, frz00, one_int, one_bool, one_ptr, one_str, one_slice, one_map, one_func, one_nil, one_niliface, size_put, size_alloc, put_same, st1_put, bsc_empty, List.nil_append, List.append_nil, List.map_cons, List.map_nil, cells_ptr, cells_str, cells_int, cells_bool, cells_slice, cells_agg, cells_map, fillB_one, fillB_nil, bdc, hlen, e2, e3, Int.toNat_natCast, Nat.mul_one, hbw, g0, g1, g2]
  refine ⟨by omega, by omega, by omega, by omega, by omega, by omega, hR w' hf⟩
end Go.Proofs.YtppefblkmgihoaaDoor
