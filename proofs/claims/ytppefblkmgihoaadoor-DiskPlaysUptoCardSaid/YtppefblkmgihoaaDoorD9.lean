/- The disk: Append. -/
import Derived.Test.YtppefblkmgihoaaDoorD8
set_option linter.unusedVariables false
set_option linter.unusedSimpArgs false
set_option maxRecDepth 10000
namespace Go.Proofs.YtppefblkmgihoaaDoor
open Go.Sh

theorem slc_all {n c : Nat} (K : Nat → Nat → Nat → Prop) : slc (bnd n c none none none) K = K 0 n c := rfl
theorem chunk_bytes {w : World} {ps : List UInt8} {b o c i : Nat} {B : Nat → Prop} {pe : TypeId} (h : Sl B pe 1 w (.slice (some ⟨b, o, none⟩) ps.length c) ps.length (ps.map fun b => .int .u8 b.toNat)) (hi : 32 * i < ps.length) : Sl B pe 1 w (chunkV b o ps.length i) ((ps.drop (32 * i)).take 32).length (((ps.drop (32 * i)).take 32).map fun b => .int .u8 b.toNat) := by
  obtain ⟨A, c', e, hn, hl, h0 | ⟨b', o', X, f, e', hB, hb, hs, hX⟩⟩ := h
  · omega
  injection e with e1 e2 e3
  subst e1
  injection e' with e'; injection e' with e4 e5
  subst e4; subst e5
  have hlen : ((ps.drop (32 * i)).take 32).length = min 32 (ps.length - 32 * i) := by simp
  refine ⟨_, _, ?_, Nat.le_refl _, by simp, .inr ⟨b, o + 32 * i, X, f, rfl, hB, hb, ?_, ?_⟩⟩
  · rw [hlen]; rfl
  · rw [hlen]; omega
  · intro k hk
    rw [hlen] at hk
    rw [Nat.add_assoc, hX (32 * i + k) (by omega)]
    simp only [List.getElem?_map, List.getElem?_take, List.getElem?_drop]
    rw [if_pos (by omega)]
def secAt (ps : List UInt8) (i : Nat) : Sec := ⟨pad32 ((ps.drop (32 * i)).take 32), false⟩
theorem secsN_at : ∀ (n : Nat) (ps : List UInt8), secsN n ps = (List.range n).map (secAt ps) := by
  intro n
  induction n with
  | zero => intro _; rfl
  | succ n ih =>
    intro ps
    rw [List.range_succ_eq_map, List.map_cons, List.map_map, secsN, ih]
    congr 1
    apply List.map_congr_left
    intro i _
    simp only [secAt, Function.comp, List.drop_drop]
    rw [show 32 + 32 * i = 32 * (i + 1) by omega]
theorem secs_fin (ps : List UInt8) : (List.finRange ((ps.length + 31) / 32)).map (fun i : Fin ((ps.length + 31) / 32) => secAt ps i) = secsOf ps := by
  unfold secsOf nsec
  rw [secsN_at]
  apply List.ext_getElem
  · simp
  · intro i h1 h2; simp
theorem secAt_len (ps : List UInt8) (i : Nat) : (secAt ps i).by_.length = 32 := by simp [secAt, pad32]; omega
theorem sec_cells_splice (bs : List UInt8) (h : bs.length ≤ 32) : splice (List.replicate 32 (Value.int .u8 0) ++ [Value.bool false]).toArray 0 (bs.map fun b => Value.int .u8 b.toNat).toArray = (Sec.cells ⟨pad32 bs, false⟩).toArray := by
  apply Array.ext'
  simp only [splice, Sec.cells, pad32, List.take_zero, List.nil_append, Nat.zero_add, List.size_toArray, List.length_map, List.map_append, List.map_replicate]
  rw [List.drop_append_of_le_length (by simpa using h), List.drop_replicate, List.append_assoc]
  rfl

theorem add_zero0 {A : Option Addr} {m : Nat} (h : A = none ∨ ∃ a, A = some a) : (if m = 0 then A else A.map (·.add 0)) = A := by
  rcases h with rfl | ⟨a, rfl⟩
  · simp
  · simp [Addr.add]
theorem lk_mp_is {α β : Type} [DecidableEq α] {kf : Kf α} {V : β → Value → Prop} {es : Array MapEntry} {c : Nat} {l : List (α × β)} (h : Mp kf V es c l) (k : α) (z : Value) (K : Value → Prop) (hK : ∀ v, K (.tuple #[v, .bool (aget l k).isSome])) : lkc kf.d z (some es) (kf.f k) true K := by
  refine lk_mp_ok h k z K (fun h0 => ?_) (fun y v h0 _ => ?_)
  · have := hK z; rw [h0] at this; exact this
  · have := hK v; rw [h0] at this; exact this
theorem clip {w : World} {A : Option Addr} {n c : Nat} (hn : n ≤ c) (hA : A = none ∨ ∃ a, A = some a) {R : Value → World → Prop} (hR : R (.slice A n n) w) : cl Tryd.prog 40 #[.slice A n c] w R := by
  refine C.slices_Clip_disk_sector_disk_sector ?_
  unfold F.slices_Clip_disk_sector_disk_sector
  have h3 : ∀ K : Nat → Nat → Nat → Prop, slc (bnd n c none (some (.int .i64 (n : Nat))) (some (.int .i64 (n : Nat)))) K = K 0 n n := fun K => by
    have : bnd n c none (some (.int .i64 (n : Nat))) (some (.int .i64 (n : Nat))) = some (0, n, n) := by simp [bnd, hn]
    rw [this]; rfl
  simp only [T.ln_75, T.sl_75, bx_eq, mm_eq, nc_eq, cnd_eq, bcond_true, bcond_false, pk_eq, pk_int, ex_eq, ldc_some, un_not, un_neg, mn_eq, mx_eq, bin_add, bin_sub, bin_mul, bin_lss, bin_leq, bin_gtr, bin_geq, bin_eql, bin_neq, bin_peq, bin_pne, bin_beq, bin_bne, bin_leqn, bin_lnen, bin_seq, bin_sne, bin_sge, bin_slt, rdc_cells, mapEs_some, frz_none, Nat.zero_add, Nat.add_zero, List.getElem?_toArray, List.getElem?_cons_zero, List.getElem?_cons_succ, Option.isNone_some, Option.isNone_none, Bool.not_true, Bool.not_false, ite_true, ite_false, Bool.false_eq_true, true_and, and_true, forall_const, false_implies, reduceCtorEq, Bool.true_eq_false, Nat.reduceAdd, Nat.reduceMul, Nat.reduceLT, Nat.reduceSub, Int.reduceEq, Int.reduceLT, decide_true, decide_false, List.setIfInBounds_toArray, List.set_cons_zero, List.set_cons_succ, List.size_toArray, List.length_cons, List.length_nil, frz00, one_int, one_bool, one_ptr, one_str, one_slice, one_map, one_func, one_nil, one_niliface, size_put, size_alloc, put_same, st1_put, bsc_empty, List.nil_append, List.append_nil, List.map_cons, List.map_nil, cells_ptr, cells_str, cells_int, cells_bool, cells_slice, cells_agg, cells_map, fillB_one, fillB_nil, bdc, h3]
  rw [add_zero0 hA]
  exact hR

theorem cpc_all {w : World} {vs n : Nat} {Z : Array Value} {e : TypeId} {x : Value} {cb : List UInt8} {K : Value → World → Prop} (hz : w.heap[vs]? = some (.cells Z e (0, 0))) {B : Nat → Prop} {pe : TypeId} (hx : Sl B pe 1 w x cb.length (cb.map fun b => .int .u8 b.toNat)) (hc : cb.length ≤ n) (h0 : 0 < cb.length) (hs : cb.length ≤ Z.size)
    (hK : K (.int .i64 cb.length) (w.put vs (.cells (splice Z 0 (cb.map fun b => Value.int .u8 b.toNat).toArray) e (0, 0)))) : cpc 1 (some ⟨vs, 0, none⟩) n x w K := by
  obtain ⟨A, c, rfl, _⟩ := Sl.shape hx
  have hm : Nat.min cb.length n = cb.length := Nat.min_eq_left hc
  have hr : rds w A (cb.length * 1) = some (cb.map fun b => Value.int .u8 b.toNat).toArray := rds_sl hx
  unfold cpc
  simp only [hm, hr, hz]
  refine ⟨by simpa using byte_one cb, ?_⟩
  rw [if_neg (by rw [List.size_toArray, List.length_map]; omega)]
  exact ⟨by simpa using hs, frz00 _ _, hK⟩
theorem row_addr {ps : List UInt8} {w : World} {A : Option Addr} {c : Nat} {B : Nat → Prop} {pe : TypeId} (h : Sl B pe 1 w (.slice A ps.length c) ps.length (ps.map fun b => .int .u8 b.toNat)) : ∃ b o, 0 < ps.length → A = some ⟨b, o, none⟩ := by
  rcases Nat.eq_zero_or_pos ps.length with h0 | h0
  · exact ⟨0, 0, fun h => by omega⟩
  · obtain ⟨b, o, c', X, f, e, _⟩ := Sl.at h h0
    injection e with e
    exact ⟨b, o, fun _ => e⟩
theorem Sl.clip {B : Nat → Prop} {e sz : Nat} {w : World} {A : Option Addr} {n c : Nat} {cs : List Value} (h : Sl B e sz w (.slice A n c) n cs) : Sl B e sz w (.slice A n n) n cs := by
  obtain ⟨A', c', e, hn, hl, hx⟩ := h
  injection e with e1 e2 e3
  subst e1
  exact ⟨_, n, rfl, Nat.le_refl _, hl, hx⟩
theorem chunk_call {w : World} {v : Value} {R : Value → World → Prop} (hR : R (.func (.func 59) #[] #[ptr w.heap.size, ptr (w.heap.size + 1)]) ((w.alloc (.cells v.cells 31)).alloc (.cells #[.int .i64 32] 3))) : cl Tryd.prog 37 #[v, .int .i64 32] w R := by
  refine C.slices_Chunk_byte_byte ?_
  unfold F.slices_Chunk_byte_byte
  have h1 : ((w.alloc (.cells v.cells 31)).alloc (.cells #[.int .i64 32] 3)).heap[w.heap.size + 1]? = some (.cells #[.int .i64 32] 3 (0, 0)) := alloc_at (by rw [size_alloc])
  simp only [bx_eq, cells_int, T.ld_3, bx_eq, mm_eq, nc_eq, cnd_eq, bcond_true, bcond_false, pk_eq, pk_int, ex_eq, ldc_some, un_not, un_neg, mn_eq, mx_eq, bin_add, bin_sub, bin_mul, bin_lss, bin_leq, bin_gtr, bin_geq, bin_eql, bin_neq, bin_peq, bin_pne, bin_beq, bin_bne, bin_leqn, bin_lnen, bin_seq, bin_sne, bin_sge, bin_slt, rdc_cells, mapEs_some, frz_none, Nat.zero_add, Nat.add_zero, List.getElem?_toArray, List.getElem?_cons_zero, List.getElem?_cons_succ, Option.isNone_some, Option.isNone_none, Bool.not_true, Bool.not_false, ite_true, ite_false, Bool.false_eq_true, true_and, and_true, forall_const, false_implies, reduceCtorEq, Bool.true_eq_false, Nat.reduceAdd, Nat.reduceMul, Nat.reduceLT, Nat.reduceSub, Int.reduceEq, Int.reduceLT, decide_true, decide_false, List.setIfInBounds_toArray, List.set_cons_zero, List.set_cons_succ, List.size_toArray, List.length_cons, List.length_nil, frz00, one_int, one_bool, one_ptr, one_str, one_slice, one_map, one_func, one_nil, one_niliface, size_put, size_alloc, put_same, st1_put, bsc_empty, List.nil_append, List.append_nil, List.map_cons, List.map_nil, cells_ptr, cells_str, cells_int, cells_bool, cells_slice, cells_agg, cells_map, fillB_one, fillB_nil, bdc, h1]
  exact hR
def Dk.append (D : Dk) (a : ByteArray) (ps : List UInt8) : Int × Dk :=
  if isName a = false then (1, D)
  else if D.room < ((nsec ps + D.fs.total : Nat) : Int) ∨ (aget D.fs a = none ∧ D.fs.length = 64) then (17, D)
  else if D.off then (18, D)
  else if D.goes then (18, { ({ D with fs := aset D.fs a (D.fs.at a ++ secsOf ps) } : Dk).count with off := true, pend := .nothing })
  else (0, ({ D with fs := aset D.fs a (D.fs.at a ++ secsOf ps) } : Dk).count)

theorem disk_Append {w : World} {d : Nat} {D : Dk} {a : ByteArray} {ps : List UInt8} {pv : Value} (h : IsDk w d D) (ha : a.size < 2 ^ 62) (hg : D.good) (ht : D.fs.total < 2 ^ 36) (hl : D.fs.length < 2 ^ 36) (hp : BytesA No w ps pv) (hps : small ps.length) {R : Value → World → Prop}
    (hR : ∀ w', IsDk w' d (D.append a ps).2 → Fr w.heap.size (D.own d) w w' → R (.int .i64 (D.append a ps).1) w') : cl Tryd.prog 9 #[ptr d, .string a, pv] w R := by
  obtain ⟨pe, hp⟩ := hp
  have hp := Sl.mono hp (B' := fun b => b < w.heap.size) fun b _ h => h
  obtain ⟨PA, pc, rfl, hpn⟩ := Sl.shape hp
  have hps : ps.length < 2 ^ 36 := hps
  refine C.disk_Disk_Append ?_
  unfold F.disk_Disk_Append
  refine disk_check h ha ?_
  refine ⟨fun l z => l = [.bool (!isName a)] ∧ z = w, ?_, ?_⟩
  · simp only [T.ln_31, T.fa_49_0, T.ld_47, T.lk_47, T.fa_49_1, T.ld_3, T.ln_47, T.al_75, T.al_82, T.fa_82_0, T.sl_80, T.cp_31, T.ld_75, T.ld_82, T.bs_75_1, T.ap_75_75, T.st_75, T.mu_47, bx_eq, mm_eq, nc_eq, cnd_eq, bcond_true, bcond_false, pk_eq, pk_int, ex_eq, ldc_some, un_not, un_neg, mn_eq, mx_eq, bin_add, bin_sub, bin_mul, bin_lss, bin_leq, bin_gtr, bin_geq, bin_eql, bin_neq, bin_peq, bin_pne, bin_beq, bin_bne, bin_leqn, bin_lnen, bin_seq, bin_sne, bin_sge, bin_slt, rdc_cells, mapEs_some, frz_none, Nat.zero_add, Nat.add_zero, List.getElem?_toArray, List.getElem?_cons_zero, List.getElem?_cons_succ, Option.isNone_some, Option.isNone_none, Bool.not_true, Bool.not_false, ite_true, ite_false, Bool.false_eq_true, true_and, and_true, forall_const, false_implies, reduceCtorEq, Bool.true_eq_false, Nat.reduceAdd, Nat.reduceMul, Nat.reduceLT, Nat.reduceSub, Int.reduceEq, Int.reduceLT, decide_true, decide_false, List.setIfInBounds_toArray, List.set_cons_zero, List.set_cons_succ, List.size_toArray, List.length_cons, List.length_nil, frz00, one_int, one_bool, one_ptr, one_str, one_slice, one_map, one_func, one_nil, one_niliface, size_put, size_alloc, put_same, st1_put, bsc_empty, List.nil_append, List.append_nil, List.map_cons, List.map_nil, cells_ptr, cells_str, cells_int, cells_bool, cells_slice, cells_agg, cells_map, fillB_one, fillB_nil, bdc, bcond_dec, Dk.check]
    cases hn : isName a <;> cases ho : D.off <;> simp
  rintro g u ⟨hg1, rfl⟩
  simp only [List.map_cons, List.map_nil, List.cons.injEq, and_true] at hg1
  simp only [hg1, cnd_eq, bcond_iff]
  refine ⟨fun h1 => ?_, fun h1 => ?_⟩
  · have h1 : isName a = false := by simpa using h1
    have e : D.append a ps = (1, D) := by unfold Dk.append; rw [if_pos h1]
    have e2 : D.check a false = 1 := by unfold Dk.check; rw [if_pos h1]
    rw [e] at hR; rw [e2]; exact hR u h Fr.refl
  have h1 : isName a = true := by simpa using h1
  have hns : ((ps.length : Int) + 32 - 1).tdiv 32 = ((nsec ps : Nat) : Int) := by
    unfold nsec; rw [Int.tdiv_eq_ediv_of_nonneg (by omega)]; omega
  have hnn : nsec ps < 2 ^ 36 := by unfold nsec; omega
  have hIs := h
  obtain ⟨hv, es, c, h⟩ := h
  have e1 : IntKind.i64.wrap ((ps.length : Int) + 32) = (ps.length : Int) + 32 := IntWalk.i64_in _ (by omega)
  have e2 : IntKind.i64.wrap ((ps.length : Int) + 32 - 1) = (ps.length : Int) + 32 - 1 := IntWalk.i64_in _ (by omega)
  have e3 : IntKind.i64.wrap ((nsec ps : Nat) : Int) = ((nsec ps : Nat) : Int) := IntWalk.i64_in _ (by omega)
  simp only [T.ln_31, T.fa_49_0, T.ld_47, T.lk_47, T.fa_49_1, T.ld_3, T.ln_47, T.al_75, T.al_82, T.fa_82_0, T.sl_80, T.cp_31, T.ld_75, T.ld_82, T.bs_75_1, T.ap_75_75, T.st_75, T.mu_47, bx_eq, mm_eq, nc_eq, cnd_eq, bcond_true, bcond_false, pk_eq, pk_int, ex_eq, ldc_some, un_not, un_neg, mn_eq, mx_eq, bin_add, bin_sub, bin_mul, bin_lss, bin_leq, bin_gtr, bin_geq, bin_eql, bin_neq, bin_peq, bin_pne, bin_beq, bin_bne, bin_leqn, bin_lnen, bin_seq, bin_sne, bin_sge, bin_slt, rdc_cells, mapEs_some, frz_none, Nat.zero_add, Nat.add_zero, List.getElem?_toArray, List.getElem?_cons_zero, List.getElem?_cons_succ, Option.isNone_some, Option.isNone_none, Bool.not_true, Bool.not_false, ite_true, ite_false, Bool.false_eq_true, true_and, and_true, forall_const, false_implies, reduceCtorEq, Bool.true_eq_false, Nat.reduceAdd, Nat.reduceMul, Nat.reduceLT, Nat.reduceSub, Int.reduceEq, Int.reduceLT, decide_true, decide_false, List.setIfInBounds_toArray, List.set_cons_zero, List.set_cons_succ, List.size_toArray, List.length_cons, List.length_nil, frz00, one_int, one_bool, one_ptr, one_str, one_slice, one_map, one_func, one_nil, one_niliface, size_put, size_alloc, put_same, st1_put, bsc_empty, List.nil_append, List.append_nil, List.map_cons, List.map_nil, cells_ptr, cells_str, cells_int, cells_bool, cells_slice, cells_agg, cells_map, fillB_one, fillB_nil, bdc, e1, e2]
  rw [bin_quo (by decide), hns, e3]
  simp only [T.ln_31, T.fa_49_0, T.ld_47, T.lk_47, T.fa_49_1, T.ld_3, T.ln_47, T.al_75, T.al_82, T.fa_82_0, T.sl_80, T.cp_31, T.ld_75, T.ld_82, T.bs_75_1, T.ap_75_75, T.st_75, T.mu_47, bx_eq, mm_eq, nc_eq, cnd_eq, bcond_true, bcond_false, pk_eq, pk_int, ex_eq, ldc_some, un_not, un_neg, mn_eq, mx_eq, bin_add, bin_sub, bin_mul, bin_lss, bin_leq, bin_gtr, bin_geq, bin_eql, bin_neq, bin_peq, bin_pne, bin_beq, bin_bne, bin_leqn, bin_lnen, bin_seq, bin_sne, bin_sge, bin_slt, rdc_cells, mapEs_some, frz_none, Nat.zero_add, Nat.add_zero, List.getElem?_toArray, List.getElem?_cons_zero, List.getElem?_cons_succ, Option.isNone_some, Option.isNone_none, Bool.not_true, Bool.not_false, ite_true, ite_false, Bool.false_eq_true, true_and, and_true, forall_const, false_implies, reduceCtorEq, Bool.true_eq_false, Nat.reduceAdd, Nat.reduceMul, Nat.reduceLT, Nat.reduceSub, Int.reduceEq, Int.reduceLT, decide_true, decide_false, List.setIfInBounds_toArray, List.set_cons_zero, List.set_cons_succ, List.size_toArray, List.length_cons, List.length_nil, frz00, one_int, one_bool, one_ptr, one_str, one_slice, one_map, one_func, one_nil, one_niliface, size_put, size_alloc, put_same, st1_put, bsc_empty, List.nil_append, List.append_nil, List.map_cons, List.map_nil, cells_ptr, cells_str, cells_int, cells_bool, cells_slice, cells_agg, cells_map, fillB_one, fillB_nil, bdc, h.blk, h.map, ptr]
  refine lk_mp_is h.mp a _ _ fun v35 => ?_
  simp only [T.ln_31, T.fa_49_0, T.ld_47, T.lk_47, T.fa_49_1, T.ld_3, T.ln_47, T.al_75, T.al_82, T.fa_82_0, T.sl_80, T.cp_31, T.ld_75, T.ld_82, T.bs_75_1, T.ap_75_75, T.st_75, T.mu_47, bx_eq, mm_eq, nc_eq, cnd_eq, bcond_true, bcond_false, pk_eq, pk_int, ex_eq, ldc_some, un_not, un_neg, mn_eq, mx_eq, bin_add, bin_sub, bin_mul, bin_lss, bin_leq, bin_gtr, bin_geq, bin_eql, bin_neq, bin_peq, bin_pne, bin_beq, bin_bne, bin_leqn, bin_lnen, bin_seq, bin_sne, bin_sge, bin_slt, rdc_cells, mapEs_some, frz_none, Nat.zero_add, Nat.add_zero, List.getElem?_toArray, List.getElem?_cons_zero, List.getElem?_cons_succ, Option.isNone_some, Option.isNone_none, Bool.not_true, Bool.not_false, ite_true, ite_false, Bool.false_eq_true, true_and, and_true, forall_const, false_implies, reduceCtorEq, Bool.true_eq_false, Nat.reduceAdd, Nat.reduceMul, Nat.reduceLT, Nat.reduceSub, Int.reduceEq, Int.reduceLT, decide_true, decide_false, List.setIfInBounds_toArray, List.set_cons_zero, List.set_cons_succ, List.size_toArray, List.length_cons, List.length_nil, frz00, one_int, one_bool, one_ptr, one_str, one_slice, one_map, one_func, one_nil, one_niliface, size_put, size_alloc, put_same, st1_put, bsc_empty, List.nil_append, List.append_nil, List.map_cons, List.map_nil, cells_ptr, cells_str, cells_int, cells_bool, cells_slice, cells_agg, cells_map, fillB_one, fillB_nil, bdc]
  have hf1 : ∀ z, Fr u.heap.size No u z → IsDk z d D := fun z hz => hIs.young hz
  refine ⟨fun l z => l = [.bool (decide (D.room < ((nsec ps + D.fs.total : Nat) : Int) ∨ (aget D.fs a = none ∧ D.fs.length = 64)))] ∧ Fr u.heap.size No u z, ?_, ?_⟩
  · refine ⟨fun z => Fr u.heap.size No u z, Fr.refl.drew, ?_⟩
    have hu : ∀ z, Fr u.heap.size No u z → DkAt z d D hv es c := fun z hz => h.young hz
    simp only [nc_eq]
    refine opS_of (.pointer (some ⟨d, 1, none⟩)) (fun z h0 K hK => by simp only [T.ln_31, T.fa_49_0, T.ld_47, T.lk_47, T.fa_49_1, T.ld_3, T.ln_47, T.al_75, T.al_82, T.fa_82_0, T.sl_80, T.cp_31, T.ld_75, T.ld_82, T.bs_75_1, T.ap_75_75, T.st_75, T.mu_47, bx_eq, mm_eq, nc_eq, cnd_eq, bcond_true, bcond_false, pk_eq, pk_int, ex_eq, ldc_some, un_not, un_neg, mn_eq, mx_eq, bin_add, bin_sub, bin_mul, bin_lss, bin_leq, bin_gtr, bin_geq, bin_eql, bin_neq, bin_peq, bin_pne, bin_beq, bin_bne, bin_leqn, bin_lnen, bin_seq, bin_sne, bin_sge, bin_slt, rdc_cells, mapEs_some, frz_none, Nat.zero_add, Nat.add_zero, List.getElem?_toArray, List.getElem?_cons_zero, List.getElem?_cons_succ, Option.isNone_some, Option.isNone_none, Bool.not_true, Bool.not_false, ite_true, ite_false, Bool.false_eq_true, true_and, and_true, forall_const, false_implies, reduceCtorEq, Bool.true_eq_false, Nat.reduceAdd, Nat.reduceMul, Nat.reduceLT, Nat.reduceSub, Int.reduceEq, Int.reduceLT, decide_true, decide_false, List.setIfInBounds_toArray, List.set_cons_zero, List.set_cons_succ, List.size_toArray, List.length_cons, List.length_nil, frz00, one_int, one_bool, one_ptr, one_str, one_slice, one_map, one_func, one_nil, one_niliface, size_put, size_alloc, put_same, st1_put, bsc_empty, List.nil_append, List.append_nil, List.map_cons, List.map_nil, cells_ptr, cells_str, cells_int, cells_bool, cells_slice, cells_agg, cells_map, fillB_one, fillB_nil, bdc]; exact hK) ?_
    refine opS_of (.int .i64 D.room) (fun z h0 K hK => by simp only [T.ln_31, T.fa_49_0, T.ld_47, T.lk_47, T.fa_49_1, T.ld_3, T.ln_47, T.al_75, T.al_82, T.fa_82_0, T.sl_80, T.cp_31, T.ld_75, T.ld_82, T.bs_75_1, T.ap_75_75, T.st_75, T.mu_47, bx_eq, mm_eq, nc_eq, cnd_eq, bcond_true, bcond_false, pk_eq, pk_int, ex_eq, ldc_some, un_not, un_neg, mn_eq, mx_eq, bin_add, bin_sub, bin_mul, bin_lss, bin_leq, bin_gtr, bin_geq, bin_eql, bin_neq, bin_peq, bin_pne, bin_beq, bin_bne, bin_leqn, bin_lnen, bin_seq, bin_sne, bin_sge, bin_slt, rdc_cells, mapEs_some, frz_none, Nat.zero_add, Nat.add_zero, List.getElem?_toArray, List.getElem?_cons_zero, List.getElem?_cons_succ, Option.isNone_some, Option.isNone_none, Bool.not_true, Bool.not_false, ite_true, ite_false, Bool.false_eq_true, true_and, and_true, forall_const, false_implies, reduceCtorEq, Bool.true_eq_false, Nat.reduceAdd, Nat.reduceMul, Nat.reduceLT, Nat.reduceSub, Int.reduceEq, Int.reduceLT, decide_true, decide_false, List.setIfInBounds_toArray, List.set_cons_zero, List.set_cons_succ, List.size_toArray, List.length_cons, List.length_nil, frz00, one_int, one_bool, one_ptr, one_str, one_slice, one_map, one_func, one_nil, one_niliface, size_put, size_alloc, put_same, st1_put, bsc_empty, List.nil_append, List.append_nil, List.map_cons, List.map_nil, cells_ptr, cells_str, cells_int, cells_bool, cells_slice, cells_agg, cells_map, fillB_one, fillB_nil, bdc, (hu z h0).blk]; exact hK) ?_
    refine disk_used (hf1 _ Fr.refl.drew) (by omega) fun z1 hz1 => ⟨hz1, ?_⟩
    have e4 : IntKind.i64.wrap (((D.fs.total : Nat) : Int) + ((nsec ps : Nat) : Int)) = ((nsec ps + D.fs.total : Nat) : Int) := by rw [IntWalk.i64_in _ (by omega)]; omega
    refine opS_of (.int .i64 ((nsec ps + D.fs.total : Nat) : Int)) (fun z h0 K hK => by rw [bin_add, e4]; exact hK) ?_
    refine opS_of (.bool (decide (D.room < ((nsec ps + D.fs.total : Nat) : Int)))) (fun z h0 K hK => by rw [bin_gtr]; exact hK) ?_
    rw [cnd_eq, bcond_dec]
    refine ⟨fun h2 => ⟨by congr 2; exact (decide_eq_true (.inl h2)).symm, hz1⟩, fun h2 => ?_⟩
    refine opS_of (.bool (!(aget D.fs a).isSome)) (fun z h0 K hK => by rw [un_not]; exact hK) ?_
    rw [cnd_eq, bcond_iff]
    refine ⟨fun h3 => ?_, fun h3 => ?_⟩
    · have h3 : aget D.fs a = none := by simpa using h3
      have hm : ∀ z, Fr u.heap.size No u z → mapEs z (.map (some D.m)) = some es := fun z hz => by simp only [bx_eq, mm_eq, nc_eq, cnd_eq, bcond_true, bcond_false, pk_eq, pk_int, ex_eq, ldc_some, un_not, un_neg, mn_eq, mx_eq, bin_add, bin_sub, bin_mul, bin_lss, bin_leq, bin_gtr, bin_geq, bin_eql, bin_neq, bin_peq, bin_pne, bin_beq, bin_bne, bin_leqn, bin_lnen, bin_seq, bin_sne, bin_sge, bin_slt, rdc_cells, mapEs_some, frz_none, Nat.zero_add, Nat.add_zero, List.getElem?_toArray, List.getElem?_cons_zero, List.getElem?_cons_succ, Option.isNone_some, Option.isNone_none, Bool.not_true, Bool.not_false, ite_true, ite_false, Bool.false_eq_true, true_and, and_true, forall_const, false_implies, reduceCtorEq, Bool.true_eq_false, Nat.reduceAdd, Nat.reduceMul, Nat.reduceLT, Nat.reduceSub, Int.reduceEq, Int.reduceLT, decide_true, decide_false, List.setIfInBounds_toArray, List.set_cons_zero, List.set_cons_succ, List.size_toArray, List.length_cons, List.length_nil, frz00, one_int, one_bool, one_ptr, one_str, one_slice, one_map, one_func, one_nil, one_niliface, size_put, size_alloc, put_same, st1_put, bsc_empty, List.nil_append, List.append_nil, List.map_cons, List.map_nil, cells_ptr, cells_str, cells_int, cells_bool, cells_slice, cells_agg, cells_map, fillB_one, fillB_nil, bdc, (hu z hz).map]
      refine opS_of (.pointer (some ⟨d, 0, none⟩)) (fun z h0 K hK => by simp only [T.ln_31, T.fa_49_0, T.ld_47, T.lk_47, T.fa_49_1, T.ld_3, T.ln_47, T.al_75, T.al_82, T.fa_82_0, T.sl_80, T.cp_31, T.ld_75, T.ld_82, T.bs_75_1, T.ap_75_75, T.st_75, T.mu_47, bx_eq, mm_eq, nc_eq, cnd_eq, bcond_true, bcond_false, pk_eq, pk_int, ex_eq, ldc_some, un_not, un_neg, mn_eq, mx_eq, bin_add, bin_sub, bin_mul, bin_lss, bin_leq, bin_gtr, bin_geq, bin_eql, bin_neq, bin_peq, bin_pne, bin_beq, bin_bne, bin_leqn, bin_lnen, bin_seq, bin_sne, bin_sge, bin_slt, rdc_cells, mapEs_some, frz_none, Nat.zero_add, Nat.add_zero, List.getElem?_toArray, List.getElem?_cons_zero, List.getElem?_cons_succ, Option.isNone_some, Option.isNone_none, Bool.not_true, Bool.not_false, ite_true, ite_false, Bool.false_eq_true, true_and, and_true, forall_const, false_implies, reduceCtorEq, Bool.true_eq_false, Nat.reduceAdd, Nat.reduceMul, Nat.reduceLT, Nat.reduceSub, Int.reduceEq, Int.reduceLT, decide_true, decide_false, List.setIfInBounds_toArray, List.set_cons_zero, List.set_cons_succ, List.size_toArray, List.length_cons, List.length_nil, frz00, one_int, one_bool, one_ptr, one_str, one_slice, one_map, one_func, one_nil, one_niliface, size_put, size_alloc, put_same, st1_put, bsc_empty, List.nil_append, List.append_nil, List.map_cons, List.map_nil, cells_ptr, cells_str, cells_int, cells_bool, cells_slice, cells_agg, cells_map, fillB_one, fillB_nil, bdc]; exact hK) ?_
      refine opS_of (.map (some D.m)) (fun z h0 K hK => by simp only [T.ln_31, T.fa_49_0, T.ld_47, T.lk_47, T.fa_49_1, T.ld_3, T.ln_47, T.al_75, T.al_82, T.fa_82_0, T.sl_80, T.cp_31, T.ld_75, T.ld_82, T.bs_75_1, T.ap_75_75, T.st_75, T.mu_47, bx_eq, mm_eq, nc_eq, cnd_eq, bcond_true, bcond_false, pk_eq, pk_int, ex_eq, ldc_some, un_not, un_neg, mn_eq, mx_eq, bin_add, bin_sub, bin_mul, bin_lss, bin_leq, bin_gtr, bin_geq, bin_eql, bin_neq, bin_peq, bin_pne, bin_beq, bin_bne, bin_leqn, bin_lnen, bin_seq, bin_sne, bin_sge, bin_slt, rdc_cells, mapEs_some, frz_none, Nat.zero_add, Nat.add_zero, List.getElem?_toArray, List.getElem?_cons_zero, List.getElem?_cons_succ, Option.isNone_some, Option.isNone_none, Bool.not_true, Bool.not_false, ite_true, ite_false, Bool.false_eq_true, true_and, and_true, forall_const, false_implies, reduceCtorEq, Bool.true_eq_false, Nat.reduceAdd, Nat.reduceMul, Nat.reduceLT, Nat.reduceSub, Int.reduceEq, Int.reduceLT, decide_true, decide_false, List.setIfInBounds_toArray, List.set_cons_zero, List.set_cons_succ, List.size_toArray, List.length_cons, List.length_nil, frz00, one_int, one_bool, one_ptr, one_str, one_slice, one_map, one_func, one_nil, one_niliface, size_put, size_alloc, put_same, st1_put, bsc_empty, List.nil_append, List.append_nil, List.map_cons, List.map_nil, cells_ptr, cells_str, cells_int, cells_bool, cells_slice, cells_agg, cells_map, fillB_one, fillB_nil, bdc, (hu z h0).blk]; exact hK) ?_
      refine opS_of (.int .i64 (D.fs.length : Nat)) (fun z h0 K hK => by
        have := h.mp.size
        simp only [T.ln_31, T.fa_49_0, T.ld_47, T.lk_47, T.fa_49_1, T.ld_3, T.ln_47, T.al_75, T.al_82, T.fa_82_0, T.sl_80, T.cp_31, T.ld_75, T.ld_82, T.bs_75_1, T.ap_75_75, T.st_75, T.mu_47, bx_eq, mm_eq, nc_eq, cnd_eq, bcond_true, bcond_false, pk_eq, pk_int, ex_eq, ldc_some, un_not, un_neg, mn_eq, mx_eq, bin_add, bin_sub, bin_mul, bin_lss, bin_leq, bin_gtr, bin_geq, bin_eql, bin_neq, bin_peq, bin_pne, bin_beq, bin_bne, bin_leqn, bin_lnen, bin_seq, bin_sne, bin_sge, bin_slt, rdc_cells, mapEs_some, frz_none, Nat.zero_add, Nat.add_zero, List.getElem?_toArray, List.getElem?_cons_zero, List.getElem?_cons_succ, Option.isNone_some, Option.isNone_none, Bool.not_true, Bool.not_false, ite_true, ite_false, Bool.false_eq_true, true_and, and_true, forall_const, false_implies, reduceCtorEq, Bool.true_eq_false, Nat.reduceAdd, Nat.reduceMul, Nat.reduceLT, Nat.reduceSub, Int.reduceEq, Int.reduceLT, decide_true, decide_false, List.setIfInBounds_toArray, List.set_cons_zero, List.set_cons_succ, List.size_toArray, List.length_cons, List.length_nil, frz00, one_int, one_bool, one_ptr, one_str, one_slice, one_map, one_func, one_nil, one_niliface, size_put, size_alloc, put_same, st1_put, bsc_empty, List.nil_append, List.append_nil, List.map_cons, List.map_nil, cells_ptr, cells_str, cells_int, cells_bool, cells_slice, cells_agg, cells_map, fillB_one, fillB_nil, bdc, (hu z h0).map, lnm, this]; exact hK) ?_
      refine opS_of (.bool (decide (D.fs.length = 64))) (fun z h0 K hK => by rw [bin_eql, show decide ((D.fs.length : Int) = 64) = decide (D.fs.length = 64) from decide_eq_decide.2 (by omega)]; exact hK) ?_
      refine ⟨?_, hz1⟩
      congr 2
      exact decide_eq_decide.2 ⟨fun hx => .inr ⟨h3, hx⟩, fun hx => hx.elim (fun hx => absurd hx h2) fun hx => hx.2⟩
    · have h3 : aget D.fs a ≠ none := by intro hx; rw [hx] at h3; simp at h3
      refine ⟨?_, hz1⟩
      congr 2
      exact (decide_eq_false fun hx => hx.elim h2 fun hx => h3 hx.1).symm
  rintro g2 z2 ⟨hg2, hf2⟩
  simp only [List.map_cons, List.map_nil, List.cons.injEq, and_true] at hg2
  rw [hg2, cnd_eq, bcond_dec]
  refine ⟨fun hfull => ?_, fun hroom => ?_⟩
  · have e : D.append a ps = (17, D) := by unfold Dk.append; rw [if_neg (by simp [h1]), if_pos hfull]
    rw [e] at hR; exact hR z2 (hf1 z2 hf2) (hf2.no (Nat.le_refl _))
  rw [bcond_ndec]
  refine ⟨fun hce => ?_, fun hce => ?_⟩
  · have ho : D.off = true := by
      unfold Dk.check at hce; rw [if_neg (by simp [h1])] at hce
      cases ho : D.off with
      | true => rfl
      | false => simp [ho] at hce
    have e : D.append a ps = (18, D) := by unfold Dk.append; rw [if_neg (by simp [h1]), if_neg hroom, if_pos ho]
    have e5 : D.check a false = 18 := by unfold Dk.check; simp [h1, ho]
    rw [e] at hR; rw [e5]; exact hR z2 (hf1 z2 hf2) (hf2.no (Nat.le_refl _))
  have ho : D.off = false := Dk.check_off (by simpa using hce)
  refine chunk_call ?_
  simp only [cells_slice]
  generalize hw3 : ((z2.alloc (.cells #[.slice none 0 0] 75)).alloc (.cells #[.slice PA ps.length pc] 31)).alloc (.cells #[.int .i64 32] 3) = wr
  have hsz0 : (z2.alloc (.cells #[.slice none 0 0] 75)).heap.size = z2.heap.size + 1 := size_alloc _ _
  have hszr : wr.heap.size = z2.heap.size + 3 := by rw [← hw3, size_alloc, size_alloc, size_alloc]
  have hbl : wr.heap[z2.heap.size]? = some (.cells #[.slice none 0 0] 75 (0, 0)) := by rw [← hw3, alloc_lt (by rw [size_alloc, size_alloc]; omega), alloc_lt (by rw [size_alloc]; omega), alloc_at rfl]
  have hbs : wr.heap[z2.heap.size + 1]? = some (.cells #[.slice PA ps.length pc] 31 (0, 0)) := by rw [← hw3, alloc_lt (by rw [size_alloc, size_alloc]; omega), alloc_at (by rw [size_alloc])]
  have hbn : wr.heap[z2.heap.size + 1 + 1]? = some (.cells #[.int .i64 32] 3 (0, 0)) := by rw [← hw3, alloc_at (by rw [size_alloc, size_alloc])]
  have hfr : Fr z2.heap.size No z2 wr := by rw [← hw3]; exact ((Fr.refl.alloc (Nat.le_refl _)).alloc (by rw [size_alloc]; omega)).alloc (by rw [size_alloc, size_alloc]; omega)
  have hfur : Fr u.heap.size No u wr := hf2.trans (hfr.no hf2.1)
  rw [hsz0]
  obtain ⟨b, o, hA⟩ := row_addr hp
  refine ⟨Fin ((ps.length + 31) / 32), 59, #[ptr (z2.heap.size + 1), ptr (z2.heap.size + 1 + 1)], fun i => chunkV b o ps.length i, fun W W' => W'.heap[z2.heap.size + 1]? = W.heap[z2.heap.size + 1]? ∧ W'.heap[z2.heap.size + 1 + 1]? = W.heap[z2.heap.size + 1 + 1]?, fun ys => ys = List.finRange _, fun _ => True, (ps.length + 31) / 32,
    fun pre W => Fr wr.heap.size (fun b => b = z2.heap.size) wr W ∧ ∃ v, W.heap[z2.heap.size]? = some (.cells #[v] 75 (0, 0)) ∧ OwS wr.heap.size W (pre.map fun i : Fin _ => secAt ps i) v, fun _ _ => False, ?_⟩
  refine { hg := rfl, ok := by kernel_rfl, seq := chunk_seq hA hpn (by omega) hbs hbn, trans := fun h k => ⟨k.1.trans h.1, k.2.trans h.2⟩, book := ?_, own := ?_, ownx := fun _ _ _ _ h _ _ => h, start := ⟨Fr.refl, _, hbl, by simp, Ow.nil ..⟩, body := ?_, done := ?_, stop := fun _ _ _ _ _ h => h.elim }
  · intro W l o o' hl _ _ _
    exact ⟨put_ne (by omega), put_ne (by omega)⟩
  · rintro s W W' row ⟨hfW, v, hv, hO⟩ hgr hrow
    have hg2 := grown_fr hgr
    have hne : ∀ (b : Nat) (X : Array Value) (e : TypeId) (f : Nat × Nat), W.heap[b]? = some (.cells X e f) → ¬ row = some b := fun b X e f hb hr => by
      obtain ⟨_, o, ho, hc⟩ := hrow b hr
      rw [hb] at ho; cases ho; cases hc
    exact ⟨hfW.trans (hg2.mono hfW.1 fun b hb hr => by have := (hrow b hr).1; omega), v, hg2.at hv (lt_at hv) (hne _ _ _ _ hv), hO.1, Ow.fr hO.2 hg2 fun b X _ hb => hne _ _ _ _ hb⟩
  · rintro l pre x W ⟨hfW, v, hv, hO⟩ hlen
    have hxb : Sl (fun b => b < u.heap.size) pe 1 W (chunkV b o ps.length x) ((ps.drop (32 * x.1)).take 32).length (((ps.drop (32 * x.1)).take 32).map fun b => .int .u8 b.toNat) := by
      have hx := x.2
      have hpos : 0 < ps.length := by omega
      have hpW := Sl.fr (Sl.young hp hfur) hfW fun b X f hB hb => ⟨lt_at hb, by
        rintro rfl
        have := hf2.1; omega⟩
      rw [hA hpos] at hpW
      exact chunk_bytes hpW (by omega)
    have hxl : ((ps.drop (32 * x.1)).take 32).length ≤ 32 := by simp; omega
    have hx0 : 0 < ((ps.drop (32 * x.1)).take 32).length := by have := x.2; simp; omega
    rw [slc_all]
    rw [if_neg (by decide)]
    simp only [add_mk, Nat.zero_mul, Nat.add_zero, Nat.sub_zero]
    generalize hW1 : W.alloc (.cells #[.int .u8 0, .int .u8 0, .int .u8 0, .int .u8 0, .int .u8 0, .int .u8 0, .int .u8 0, .int .u8 0, .int .u8 0, .int .u8 0, .int .u8 0, .int .u8 0, .int .u8 0, .int .u8 0, .int .u8 0, .int .u8 0, .int .u8 0, .int .u8 0, .int .u8 0, .int .u8 0, .int .u8 0, .int .u8 0, .int .u8 0, .int .u8 0, .int .u8 0, .int .u8 0, .int .u8 0, .int .u8 0, .int .u8 0, .int .u8 0, .int .u8 0, .int .u8 0, .bool false] 82) = W1
    have hf1W : Fr W.heap.size No W W1 := by rw [← hW1]; exact Fr.refl.alloc (Nat.le_refl _)
    have hat1 : W1.heap[W.heap.size]? = some (.cells (List.replicate 32 (Value.int .u8 0) ++ [Value.bool false]).toArray 82 (0, 0)) := by rw [← hW1]; exact alloc_at rfl
    refine cpc_all hat1 (Sl.young hxb hf1W) hxl hx0 (by simp; omega) ?_
    rw [sec_cells_splice _ hxl]
    have hvsl := lt_at hat1
    generalize hW2 : W1.put W.heap.size (.cells (Sec.cells ⟨pad32 ((ps.drop (32 * x.1)).take 32), false⟩).toArray 82 (0, 0)) = W2
    have hf2W : Fr W.heap.size No W W2 := by rw [← hW2]; exact hf1W.put (.inr (Nat.le_refl _))
    have hat2 : W2.heap[W.heap.size]? = some (.cells (Sec.cells (secAt ps x)).toArray 82 (0, 0)) := by rw [← hW2]; exact put_same hvsl
    have hv2 := young_at hf2W hv
    have hclen : (Sec.cells (secAt ps x)).length = 33 := by simp [Sec.cells, secAt_len]
    have hrd2 : rdn (some (.cells (Sec.cells (secAt ps x)).toArray 82 (0, 0))) 0 33 = some (Sec.cells (secAt ps x)).toArray := by
      simp only [rdn, List.size_toArray, hclen]
      rw [if_pos (by omega)]
      congr 1
      apply Array.ext'
      simp only [Array.toList_extract, List.extract_eq_take_drop, List.drop_zero]
      rw [List.take_of_length_le (by rw [hclen]; omega)]
    simp only [hv2, hat2, bx_eq, mm_eq, nc_eq, cnd_eq, bcond_true, bcond_false, pk_eq, pk_int, ex_eq, ldc_some, un_not, un_neg, mn_eq, mx_eq, bin_add, bin_sub, bin_mul, bin_lss, bin_leq, bin_gtr, bin_geq, bin_eql, bin_neq, bin_peq, bin_pne, bin_beq, bin_bne, bin_leqn, bin_lnen, bin_seq, bin_sne, bin_sge, bin_slt, rdc_cells, mapEs_some, frz_none, Nat.zero_add, Nat.add_zero, List.getElem?_toArray, List.getElem?_cons_zero, List.getElem?_cons_succ, Option.isNone_some, Option.isNone_none, Bool.not_true, Bool.not_false, ite_true, ite_false, Bool.false_eq_true, true_and, and_true, forall_const, false_implies, reduceCtorEq, Bool.true_eq_false, Nat.reduceAdd, Nat.reduceMul, Nat.reduceLT, Nat.reduceSub, Int.reduceEq, Int.reduceLT, decide_true, decide_false, List.setIfInBounds_toArray, List.set_cons_zero, List.set_cons_succ, List.size_toArray, List.length_cons, List.length_nil, frz00, one_int, one_bool, one_ptr, one_str, one_slice, one_map, one_func, one_nil, one_niliface, size_put, size_alloc, put_same, st1_put, bsc_empty, List.nil_append, List.append_nil, List.map_cons, List.map_nil, cells_ptr, cells_str, cells_int, cells_bool, cells_slice, cells_agg, cells_map, fillB_one, fillB_nil, bdc, hrd2, ldn]
    rw [bsc_one (v := .agg (Sec.cells (secAt ps x)).toArray) (sz := 33) (by rw [cells_agg]; simpa using hclen) rfl]
    simp only [cells_agg]
    generalize hW3 : W2.alloc (.cells (Sec.cells (secAt ps x)).toArray 82 (0, 0)) = W3
    have hf23 : Fr W2.heap.size No W2 W3 := by rw [← hW3]; exact Fr.refl.alloc (Nat.le_refl _)
    have hf3W : Fr W.heap.size No W W3 := hf2W.trans (hf23.no hf2W.1)
    have hat3 : W3.heap[W2.heap.size]? = some (.cells (Sec.cells (secAt ps x)).toArray 82 (0, 0)) := by rw [← hW3]; exact alloc_at rfl
    obtain ⟨hO1, hO2⟩ := hO
    have hO3 : Ow wr.heap.size 82 33 W3 v _ _ := Ow.fr hO2 hf3W fun _ _ _ _ => no_not
    obtain ⟨A3, c3, rfl, _⟩ := hO3.sl.shape
    have hs3 : Sl (fun _ => True) 82 33 W3 (.slice (some ⟨W2.heap.size, 0, none⟩) 1 1) 1 (Sec.cells (secAt ps x)) := ⟨_, 1, rfl, Nat.le_refl _, by rw [hclen], .inr ⟨W2.heap.size, 0, _, (0, 0), rfl, trivial, hat3, by simp [hclen], fun k hk => by simp⟩⟩
    simp only [T.ln_31, T.fa_49_0, T.ld_47, T.lk_47, T.fa_49_1, T.ld_3, T.ln_47, T.al_75, T.al_82, T.fa_82_0, T.sl_80, T.cp_31, T.ld_75, T.ld_82, T.bs_75_1, T.ap_75_75, T.st_75, T.mu_47]
    rw [src_sl hs3]
    have hprelen : ((List.map (fun i : Fin ((ps.length + 31) / 32) => secAt ps i) pre)).length = pre.length := by simp
    have hWs := hfW.1
    refine ap_own hO3 rfl (by decide) (by rw [hclen]) (by
      intro q hq
      have := sec_one [secAt ps x] q (by simpa using hq)
      exact this) (by have := hf3W.1; omega) (by rw [hprelen]; omega) (by rw [hprelen]; omega) fun A4 c4 W4 hO4 hof4 => ?_
    have hblk3 : W3.heap[z2.heap.size]? = some (.cells #[.slice A3 (List.map (fun i : Fin ((ps.length + 31) / 32) => secAt ps i) pre).length c3] 75 (0, 0)) := young_at hf3W hv
    have hblk4 : W4.heap[z2.heap.size]? = some (.cells #[.slice A3 (List.map (fun i : Fin ((ps.length + 31) / 32) => secAt ps i) pre).length c3] 75 (0, 0)) := hof4.at hblk3 (lt_at hblk3) fun hx => by have := hx.1; omega
    rw [st1_at hblk4]
    have hf34 : Fr wr.heap.size No W3 W4 := hof4.fr (by have := hf3W.1; omega)
    have hfp : Fr W4.heap.size (fun b => b = z2.heap.size) W4 (W4.put z2.heap.size (.cells ((#[Value.slice A3 (List.map (fun i : Fin ((ps.length + 31) / 32) => secAt ps i) pre).length c3] : Array Value).setIfInBounds 0 (.slice A4 ((List.map (fun i : Fin ((ps.length + 31) / 32) => secAt ps i) pre).length + 1) c4)) 75 (0, 0))) := Fr.refl.put (.inl rfl)
    have hf14 : Fr wr.heap.size No W W4 := (hf3W.no hWs).trans hf34
    refine ⟨rfl, by simp, frz00 _ _, ?_, ⟨?_, ?_⟩, ?_, ?_⟩
    · exact ((keepsO hf3W fun _ h => h.elim).trans (keepsO hof4 fun b hb => by obtain ⟨_, ⟨X, hX⟩, _⟩ := hb; exact ⟨X, _, _, hX⟩)).trans (keepsO hfp fun b hb => by subst hb; exact ⟨_, _, _, hblk4⟩)
    · exact (put_ne (by omega)).trans (hf14.2.1 _ (by omega) no_not)
    · exact (put_ne (by omega)).trans (hf14.2.1 _ (by omega) no_not)
    · exact (hfW.trans (hf14.no (Nat.le_refl _))).trans (hfp.mono (by have := hf14.1; omega) fun _ _ h => h)
    · refine ⟨_, put_same (lt_at hblk4), ?_, ?_⟩
      · intro s hs
        rw [List.map_append] at hs
        rcases List.mem_append.1 hs with hs | hs
        · exact hO1 s hs
        · simp only [List.map_cons, List.map_nil, List.mem_singleton] at hs
          rw [hs]; exact secAt_len _ _
      · have hO5 := Ow.fr hO4 hfp fun b X hNb hb => by omega
        rw [List.map_append, List.length_append, List.flatMap_append]
        simpa using hO5
  · rintro Db xs W hDb rfl ⟨hfW, v, hv, hO⟩ hD
    rw [secs_fin] at hO
    have hfuW : Fr u.heap.size No u W := hfur.trans (hfW.mono hfur.1 fun b hb e => by have := hf2.1; omega)
    have hW := h.young hfuW
    have hrf : (D.run .nothing).2.fs = D.fs := by unfold Dk.run; split <;> rfl
    have hrm : (D.run .nothing).2.m = D.m := by unfold Dk.run; split <;> rfl
    refine disk_run (p := .nothing) ⟨_, _, _, hW⟩ ho hg rfl fun w3 h3 hf3 => ?_
    have hlt3 := lt_at hv
    have hv3 : w3.heap[z2.heap.size]? = some (.cells #[v] 75 (0, 0)) := hf3.at hv hlt3 (hW.sec hv (by decide))
    have hO3 : OwS wr.heap.size w3 (secsOf ps) v := ⟨hO.1, Ow.fr hO.2 hf3 fun b X _ hb => hW.sec hb (by decide)⟩
    have hD3 : w3.heap[Db]? = some (.deferred (some [])) := hf3.at hD (lt_at hD) (by
      rintro (e | e)
      · rw [e, hW.blk] at hD; cases hD
      · rw [e, hW.map] at hD; cases hD)
    obtain ⟨hf3v, es3, c3, h3⟩ := h3
    obtain ⟨v85, hv85, hv2⟩ := h3.look a
    have hv2' := hv2
    obtain ⟨AL, cL, rfl, _⟩ := hO3.2.sl.shape
    refine ⟨fun z => Fr w3.heap.size No w3 z, Fr.refl.drew, ?_⟩
    have hu : ∀ z, Fr w3.heap.size No w3 z → z.heap[z2.heap.size]? = some (.cells #[.slice AL (secsOf ps).length cL] 75 (0, 0)) ∧ DkAt z d (D.run .nothing).2 hf3v es3 c3 := fun z hz => ⟨young_at hz hv3, h3.young hz⟩
    refine opS_of (.pointer (some ⟨d, 0, none⟩)) (fun u h0 K hK => by have h1 := hu u h0; simp only [T.ln_31, T.fa_49_0, T.ld_47, T.lk_47, T.fa_49_1, T.ld_3, T.ln_47, T.al_75, T.al_82, T.fa_82_0, T.sl_80, T.cp_31, T.ld_75, T.ld_82, T.bs_75_1, T.ap_75_75, T.st_75, T.mu_47, bx_eq, mm_eq, nc_eq, cnd_eq, bcond_true, bcond_false, pk_eq, pk_int, ex_eq, ldc_some, un_not, un_neg, mn_eq, mx_eq, bin_add, bin_sub, bin_mul, bin_lss, bin_leq, bin_gtr, bin_geq, bin_eql, bin_neq, bin_peq, bin_pne, bin_beq, bin_bne, bin_leqn, bin_lnen, bin_seq, bin_sne, bin_sge, bin_slt, rdc_cells, mapEs_some, frz_none, Nat.zero_add, Nat.add_zero, List.getElem?_toArray, List.getElem?_cons_zero, List.getElem?_cons_succ, Option.isNone_some, Option.isNone_none, Bool.not_true, Bool.not_false, ite_true, ite_false, Bool.false_eq_true, true_and, and_true, forall_const, false_implies, reduceCtorEq, Bool.true_eq_false, Nat.reduceAdd, Nat.reduceMul, Nat.reduceLT, Nat.reduceSub, Int.reduceEq, Int.reduceLT, decide_true, decide_false, List.setIfInBounds_toArray, List.set_cons_zero, List.set_cons_succ, List.size_toArray, List.length_cons, List.length_nil, frz00, one_int, one_bool, one_ptr, one_str, one_slice, one_map, one_func, one_nil, one_niliface, size_put, size_alloc, put_same, st1_put, bsc_empty, List.nil_append, List.append_nil, List.map_cons, List.map_nil, cells_ptr, cells_str, cells_int, cells_bool, cells_slice, cells_agg, cells_map, fillB_one, fillB_nil, bdc, h1, (h1.2).blk, (h1.2).map, ptr]; first | exact hK | exact hv2 _ hK) ?_
    refine opS_of (.map (some (D.run .nothing).2.m)) (fun u h0 K hK => by have h1 := hu u h0; simp only [T.ln_31, T.fa_49_0, T.ld_47, T.lk_47, T.fa_49_1, T.ld_3, T.ln_47, T.al_75, T.al_82, T.fa_82_0, T.sl_80, T.cp_31, T.ld_75, T.ld_82, T.bs_75_1, T.ap_75_75, T.st_75, T.mu_47, bx_eq, mm_eq, nc_eq, cnd_eq, bcond_true, bcond_false, pk_eq, pk_int, ex_eq, ldc_some, un_not, un_neg, mn_eq, mx_eq, bin_add, bin_sub, bin_mul, bin_lss, bin_leq, bin_gtr, bin_geq, bin_eql, bin_neq, bin_peq, bin_pne, bin_beq, bin_bne, bin_leqn, bin_lnen, bin_seq, bin_sne, bin_sge, bin_slt, rdc_cells, mapEs_some, frz_none, Nat.zero_add, Nat.add_zero, List.getElem?_toArray, List.getElem?_cons_zero, List.getElem?_cons_succ, Option.isNone_some, Option.isNone_none, Bool.not_true, Bool.not_false, ite_true, ite_false, Bool.false_eq_true, true_and, and_true, forall_const, false_implies, reduceCtorEq, Bool.true_eq_false, Nat.reduceAdd, Nat.reduceMul, Nat.reduceLT, Nat.reduceSub, Int.reduceEq, Int.reduceLT, decide_true, decide_false, List.setIfInBounds_toArray, List.set_cons_zero, List.set_cons_succ, List.size_toArray, List.length_cons, List.length_nil, frz00, one_int, one_bool, one_ptr, one_str, one_slice, one_map, one_func, one_nil, one_niliface, size_put, size_alloc, put_same, st1_put, bsc_empty, List.nil_append, List.append_nil, List.map_cons, List.map_nil, cells_ptr, cells_str, cells_int, cells_bool, cells_slice, cells_agg, cells_map, fillB_one, fillB_nil, bdc, h1, (h1.2).blk, (h1.2).map, ptr]; first | exact hK | exact hv2 _ hK) ?_
    refine opS_of (.pointer (some ⟨d, 0, none⟩)) (fun u h0 K hK => by have h1 := hu u h0; simp only [T.ln_31, T.fa_49_0, T.ld_47, T.lk_47, T.fa_49_1, T.ld_3, T.ln_47, T.al_75, T.al_82, T.fa_82_0, T.sl_80, T.cp_31, T.ld_75, T.ld_82, T.bs_75_1, T.ap_75_75, T.st_75, T.mu_47, bx_eq, mm_eq, nc_eq, cnd_eq, bcond_true, bcond_false, pk_eq, pk_int, ex_eq, ldc_some, un_not, un_neg, mn_eq, mx_eq, bin_add, bin_sub, bin_mul, bin_lss, bin_leq, bin_gtr, bin_geq, bin_eql, bin_neq, bin_peq, bin_pne, bin_beq, bin_bne, bin_leqn, bin_lnen, bin_seq, bin_sne, bin_sge, bin_slt, rdc_cells, mapEs_some, frz_none, Nat.zero_add, Nat.add_zero, List.getElem?_toArray, List.getElem?_cons_zero, List.getElem?_cons_succ, Option.isNone_some, Option.isNone_none, Bool.not_true, Bool.not_false, ite_true, ite_false, Bool.false_eq_true, true_and, and_true, forall_const, false_implies, reduceCtorEq, Bool.true_eq_false, Nat.reduceAdd, Nat.reduceMul, Nat.reduceLT, Nat.reduceSub, Int.reduceEq, Int.reduceLT, decide_true, decide_false, List.setIfInBounds_toArray, List.set_cons_zero, List.set_cons_succ, List.size_toArray, List.length_cons, List.length_nil, frz00, one_int, one_bool, one_ptr, one_str, one_slice, one_map, one_func, one_nil, one_niliface, size_put, size_alloc, put_same, st1_put, bsc_empty, List.nil_append, List.append_nil, List.map_cons, List.map_nil, cells_ptr, cells_str, cells_int, cells_bool, cells_slice, cells_agg, cells_map, fillB_one, fillB_nil, bdc, h1, (h1.2).blk, (h1.2).map, ptr]; first | exact hK | exact hv2 _ hK) ?_
    refine opS_of (.map (some (D.run .nothing).2.m)) (fun u h0 K hK => by have h1 := hu u h0; simp only [T.ln_31, T.fa_49_0, T.ld_47, T.lk_47, T.fa_49_1, T.ld_3, T.ln_47, T.al_75, T.al_82, T.fa_82_0, T.sl_80, T.cp_31, T.ld_75, T.ld_82, T.bs_75_1, T.ap_75_75, T.st_75, T.mu_47, bx_eq, mm_eq, nc_eq, cnd_eq, bcond_true, bcond_false, pk_eq, pk_int, ex_eq, ldc_some, un_not, un_neg, mn_eq, mx_eq, bin_add, bin_sub, bin_mul, bin_lss, bin_leq, bin_gtr, bin_geq, bin_eql, bin_neq, bin_peq, bin_pne, bin_beq, bin_bne, bin_leqn, bin_lnen, bin_seq, bin_sne, bin_sge, bin_slt, rdc_cells, mapEs_some, frz_none, Nat.zero_add, Nat.add_zero, List.getElem?_toArray, List.getElem?_cons_zero, List.getElem?_cons_succ, Option.isNone_some, Option.isNone_none, Bool.not_true, Bool.not_false, ite_true, ite_false, Bool.false_eq_true, true_and, and_true, forall_const, false_implies, reduceCtorEq, Bool.true_eq_false, Nat.reduceAdd, Nat.reduceMul, Nat.reduceLT, Nat.reduceSub, Int.reduceEq, Int.reduceLT, decide_true, decide_false, List.setIfInBounds_toArray, List.set_cons_zero, List.set_cons_succ, List.size_toArray, List.length_cons, List.length_nil, frz00, one_int, one_bool, one_ptr, one_str, one_slice, one_map, one_func, one_nil, one_niliface, size_put, size_alloc, put_same, st1_put, bsc_empty, List.nil_append, List.append_nil, List.map_cons, List.map_nil, cells_ptr, cells_str, cells_int, cells_bool, cells_slice, cells_agg, cells_map, fillB_one, fillB_nil, bdc, h1, (h1.2).blk, (h1.2).map, ptr]; first | exact hK | exact hv2 _ hK) ?_
    refine opS_of (v85) (fun u h0 K hK => by have h1 := hu u h0; simp only [T.ln_31, T.fa_49_0, T.ld_47, T.lk_47, T.fa_49_1, T.ld_3, T.ln_47, T.al_75, T.al_82, T.fa_82_0, T.sl_80, T.cp_31, T.ld_75, T.ld_82, T.bs_75_1, T.ap_75_75, T.st_75, T.mu_47, bx_eq, mm_eq, nc_eq, cnd_eq, bcond_true, bcond_false, pk_eq, pk_int, ex_eq, ldc_some, un_not, un_neg, mn_eq, mx_eq, bin_add, bin_sub, bin_mul, bin_lss, bin_leq, bin_gtr, bin_geq, bin_eql, bin_neq, bin_peq, bin_pne, bin_beq, bin_bne, bin_leqn, bin_lnen, bin_seq, bin_sne, bin_sge, bin_slt, rdc_cells, mapEs_some, frz_none, Nat.zero_add, Nat.add_zero, List.getElem?_toArray, List.getElem?_cons_zero, List.getElem?_cons_succ, Option.isNone_some, Option.isNone_none, Bool.not_true, Bool.not_false, ite_true, ite_false, Bool.false_eq_true, true_and, and_true, forall_const, false_implies, reduceCtorEq, Bool.true_eq_false, Nat.reduceAdd, Nat.reduceMul, Nat.reduceLT, Nat.reduceSub, Int.reduceEq, Int.reduceLT, decide_true, decide_false, List.setIfInBounds_toArray, List.set_cons_zero, List.set_cons_succ, List.size_toArray, List.length_cons, List.length_nil, frz00, one_int, one_bool, one_ptr, one_str, one_slice, one_map, one_func, one_nil, one_niliface, size_put, size_alloc, put_same, st1_put, bsc_empty, List.nil_append, List.append_nil, List.map_cons, List.map_nil, cells_ptr, cells_str, cells_int, cells_bool, cells_slice, cells_agg, cells_map, fillB_one, fillB_nil, bdc, h1, (h1.2).blk, (h1.2).map, ptr]; first | exact hK | exact hv2 _ hK) ?_
    refine opS_of (.slice AL (secsOf ps).length cL) (fun u h0 K hK => by have h1 := hu u h0; simp only [T.ln_31, T.fa_49_0, T.ld_47, T.lk_47, T.fa_49_1, T.ld_3, T.ln_47, T.al_75, T.al_82, T.fa_82_0, T.sl_80, T.cp_31, T.ld_75, T.ld_82, T.bs_75_1, T.ap_75_75, T.st_75, T.mu_47, bx_eq, mm_eq, nc_eq, cnd_eq, bcond_true, bcond_false, pk_eq, pk_int, ex_eq, ldc_some, un_not, un_neg, mn_eq, mx_eq, bin_add, bin_sub, bin_mul, bin_lss, bin_leq, bin_gtr, bin_geq, bin_eql, bin_neq, bin_peq, bin_pne, bin_beq, bin_bne, bin_leqn, bin_lnen, bin_seq, bin_sne, bin_sge, bin_slt, rdc_cells, mapEs_some, frz_none, Nat.zero_add, Nat.add_zero, List.getElem?_toArray, List.getElem?_cons_zero, List.getElem?_cons_succ, Option.isNone_some, Option.isNone_none, Bool.not_true, Bool.not_false, ite_true, ite_false, Bool.false_eq_true, true_and, and_true, forall_const, false_implies, reduceCtorEq, Bool.true_eq_false, Nat.reduceAdd, Nat.reduceMul, Nat.reduceLT, Nat.reduceSub, Int.reduceEq, Int.reduceLT, decide_true, decide_false, List.setIfInBounds_toArray, List.set_cons_zero, List.set_cons_succ, List.size_toArray, List.length_cons, List.length_nil, frz00, one_int, one_bool, one_ptr, one_str, one_slice, one_map, one_func, one_nil, one_niliface, size_put, size_alloc, put_same, st1_put, bsc_empty, List.nil_append, List.append_nil, List.map_cons, List.map_nil, cells_ptr, cells_str, cells_int, cells_bool, cells_slice, cells_agg, cells_map, fillB_one, fillB_nil, bdc, h1, (h1.2).blk, (h1.2).map, ptr]; first | exact hK | exact hv2 _ hK) ?_
    obtain ⟨A85, c85, rfl, hn85⟩ := hv85.2.shape
    refine clip hn85 (Sl.spot hv85.2) ⟨Fr.refl.drew, ?_⟩
    have hat : (D.fs.at a).length < 2 ^ 36 := Files.at_small hg.ok a
    have hsl : (secsOf ps).length < 2 ^ 36 := by rw [secsOf_len]; exact hnn
    have eat : (D.run .nothing).2.fs.at a = D.fs.at a := by rw [hrf]
    rw [eat] at hv85 ⊢
    have fin : ∀ (v88 : Value) (w4 : World), Fr w3.heap.size No w3 w4 → SecV w4 (D.fs.at a ++ secsOf ps) v88 → Fr w3.heap.size No w3 w4 ∧ mu Tryd.prog 47 (.map (some (D.run .nothing).2.m)) (.string a) v88 w4 fun w => finV Db w fun w => R (.int .i64 (D.run .nothing).1) w := by
      intro v88 w4 hf4 hv88
      refine ⟨hf4, ?_⟩
      have h4 := h3.young hf4
      simp only [T.ln_31, T.fa_49_0, T.ld_47, T.lk_47, T.fa_49_1, T.ld_3, T.ln_47, T.al_75, T.al_82, T.fa_82_0, T.sl_80, T.cp_31, T.ld_75, T.ld_82, T.bs_75_1, T.ap_75_75, T.st_75, T.mu_47]
      refine mu_mp h4.mp h4.map a _ v88 hv88 _ fun es' c' hm => ?_
      have hD4 := young_at hf4 hD3
      have hne1 : Db ≠ (D.run .nothing).2.m := by rintro rfl; rw [h4.map] at hD4; cases hD4
      have hne2 : Db ≠ d := by rintro rfl; rw [h4.blk] at hD4; cases hD4
      have h5 := h4.putMap (D' := { (D.run .nothing).2 with fs := aset (D.run .nothing).2.fs a (D.fs.at a ++ secsOf ps) }) rfl hm
      have hD5 : (w4.put (D.run .nothing).2.m (.map es' c')).heap[Db]? = some (.deferred (some [])) := by rw [put_ne (Ne.symm hne1)]; exact hD4
      refine ⟨hD5, ?_⟩
      have h6 := h5.fr (S := fun b => b = Db) (Fr.refl.put (.inl rfl) : Fr _ (fun b => b = Db) _ ((w4.put (D.run .nothing).2.m (.map es' c')).put Db (.deferred none))) (Ne.symm hne2) (Ne.symm hne1) fun b X e f _ hb hbd => by subst hbd; rw [hD5] at hb; cases hb
      have hown : Dk.own d D = Dk.own d (D.run .nothing).2 := by unfold Dk.own; rw [hrm]
      have hfin : Fr u.heap.size (D.own d) u ((w4.put (D.run .nothing).2.m (.map es' c')).put Db (.deferred none)) := by
        have a1 : Fr u.heap.size (D.own d) u W := hfuW.no (Nat.le_refl _)
        have a2 : Fr u.heap.size (D.own d) u w3 := a1.then hf3 hfuW.1 fun _ _ h => h
        have a3 : Fr u.heap.size (D.own d) u w4 := a2.then hf4 a2.1 fun _ _ h => h.elim
        have a4 : Fr u.heap.size (D.own d) u (w4.put (D.run .nothing).2.m (.map es' c')) := a3.put (.inl (.inr hrm))
        exact a4.put (.inr (by have := hfur.1; omega))
      have hval : (D.append a ps) = ((D.run .nothing).1, { (D.run .nothing).2 with fs := aset (D.run .nothing).2.fs a (D.fs.at a ++ secsOf ps) }) := by
        unfold Dk.append Dk.run
        rw [if_neg (by simp [h1]), if_neg hroom, if_neg (by rw [ho]; simp)]
        split <;> rfl
      rw [hval] at hR
      exact hR _ ⟨_, _, _, h6⟩ hfin
    simp only [T.ln_31, T.fa_49_0, T.ld_47, T.lk_47, T.fa_49_1, T.ld_3, T.ln_47, T.al_75, T.al_82, T.fa_82_0, T.sl_80, T.cp_31, T.ld_75, T.ld_82, T.bs_75_1, T.ap_75_75, T.st_75, T.mu_47] at fin ⊢
    have hv85' : SecV w3.drew (D.fs.at a) (.slice A85 (D.fs.at a).length c85) := hv85.young Fr.refl.drew
    have hO3' : Sl (fun _ => True) 82 33 w3.drew (.slice AL (secsOf ps).length cL) (secsOf ps).length ((secsOf ps).flatMap Sec.cells) := SecV.young hO3.v Fr.refl.drew |>.2
    rw [src_sl hO3']
    refine ap_full (Sl.clip hv85'.2) rfl (by decide) hO3'.length (sec_one _) (by omega) (by omega) ?_ ?_
    · intro hm0
      refine fin _ _ Fr.refl.drew ?_
      have : secsOf ps = [] := List.eq_nil_of_length_eq_zero hm0
      rw [this, List.append_nil]
      exact ⟨hv85'.1, Sl.clip hv85'.2⟩
    · intro hm0 cap X hc1 hX1 hX2
      refine fin _ _ (Fr.refl.drew.drew.alloc (Nat.le_refl _)) ⟨?_, ?_⟩
      · intro s hs
        exact (List.mem_append.1 hs).elim (hv85.1 s) (hO3.1 s)
      · rw [List.length_append, List.flatMap_append]
        exact ⟨_, cap, rfl, hc1, by rw [List.length_append, hv85'.2.length, hO3'.length, Nat.add_mul], .inr ⟨_, 0, X, (0, 0), rfl, trivial, alloc_at rfl, by simpa using hX1, fun k hk => by simpa using hX2 k hk⟩⟩
theorem disk_Append_nil {w : World} {a : ByteArray} {pv : Value} (ha : a.size < 2 ^ 62) {R : Value → World → Prop}
    (hR : ∀ w', Fr w.heap.size No w w' → R (.int .i64 (if isName a = false then 1 else 7)) w') : cl Tryd.prog 9 #[.pointer none, .string a, pv] w R := by
  refine C.disk_Disk_Append ?_
  unfold F.disk_Disk_Append
  refine disk_check_nil ha ?_
  refine ⟨fun l z => l = [.bool true] ∧ z = w, ?_, ?_⟩
  · simp only [T.ln_31, T.fa_49_0, T.ld_47, T.lk_47, T.fa_49_1, T.ld_3, T.ln_47, T.al_75, T.al_82, T.fa_82_0, T.sl_80, T.cp_31, T.ld_75, T.ld_82, T.bs_75_1, T.ap_75_75, T.st_75, T.mu_47, bx_eq, mm_eq, nc_eq, cnd_eq, bcond_true, bcond_false, pk_eq, pk_int, ex_eq, ldc_some, un_not, un_neg, mn_eq, mx_eq, bin_add, bin_sub, bin_mul, bin_lss, bin_leq, bin_gtr, bin_geq, bin_eql, bin_neq, bin_peq, bin_pne, bin_beq, bin_bne, bin_leqn, bin_lnen, bin_seq, bin_sne, bin_sge, bin_slt, rdc_cells, mapEs_some, frz_none, Nat.zero_add, Nat.add_zero, List.getElem?_toArray, List.getElem?_cons_zero, List.getElem?_cons_succ, Option.isNone_some, Option.isNone_none, Bool.not_true, Bool.not_false, ite_true, ite_false, Bool.false_eq_true, true_and, and_true, forall_const, false_implies, reduceCtorEq, Bool.true_eq_false, Nat.reduceAdd, Nat.reduceMul, Nat.reduceLT, Nat.reduceSub, Int.reduceEq, Int.reduceLT, decide_true, decide_false, List.setIfInBounds_toArray, List.set_cons_zero, List.set_cons_succ, List.size_toArray, List.length_cons, List.length_nil, frz00, one_int, one_bool, one_ptr, one_str, one_slice, one_map, one_func, one_nil, one_niliface, size_put, size_alloc, put_same, st1_put, bsc_empty, List.nil_append, List.append_nil, List.map_cons, List.map_nil, cells_ptr, cells_str, cells_int, cells_bool, cells_slice, cells_agg, cells_map, fillB_one, fillB_nil, bdc, bcond_dec]
    cases hn : isName a <;> simp
  rintro g u ⟨hg1, rfl⟩
  simp only [List.map_cons, List.map_nil, List.cons.injEq, and_true] at hg1
  simp only [hg1, bx_eq, mm_eq, nc_eq, cnd_eq, bcond_true, bcond_false, pk_eq, pk_int, ex_eq, ldc_some, un_not, un_neg, mn_eq, mx_eq, bin_add, bin_sub, bin_mul, bin_lss, bin_leq, bin_gtr, bin_geq, bin_eql, bin_neq, bin_peq, bin_pne, bin_beq, bin_bne, bin_leqn, bin_lnen, bin_seq, bin_sne, bin_sge, bin_slt, rdc_cells, mapEs_some, frz_none, Nat.zero_add, Nat.add_zero, List.getElem?_toArray, List.getElem?_cons_zero, List.getElem?_cons_succ, Option.isNone_some, Option.isNone_none, Bool.not_true, Bool.not_false, ite_true, ite_false, Bool.false_eq_true, true_and, and_true, forall_const, false_implies, reduceCtorEq, Bool.true_eq_false, Nat.reduceAdd, Nat.reduceMul, Nat.reduceLT, Nat.reduceSub, Int.reduceEq, Int.reduceLT, decide_true, decide_false, List.setIfInBounds_toArray, List.set_cons_zero, List.set_cons_succ, List.size_toArray, List.length_cons, List.length_nil, frz00, one_int, one_bool, one_ptr, one_str, one_slice, one_map, one_func, one_nil, one_niliface, size_put, size_alloc, put_same, st1_put, bsc_empty, List.nil_append, List.append_nil, List.map_cons, List.map_nil, cells_ptr, cells_str, cells_int, cells_bool, cells_slice, cells_agg, cells_map, fillB_one, fillB_nil, bdc]
  exact hR _ Fr.refl
end Go.Proofs.YtppefblkmgihoaaDoor
