/- The reference of layer 9: DocRestart. -/
import Derived.Test.YtppefblkmgihoaaDoorR11
import Derived.Test.YtppefblkmgihoaaDoorDD
set_option linter.unusedVariables false
set_option linter.unusedSimpArgs false
set_option maxRecDepth 10000
namespace Go.Proofs.YtppefblkmgihoaaDoor
open Go.Sh

theorem Sl0.setc {B : Nat → Prop} {e sz : Nat} {w : World} {v : Value} {n : Nat} {cs : List Value} (h : Sl0 B e sz w v n cs) {q : Nat} (hq : q < n * sz) (x : Value) (hx : x.oneCell' = true) :
    ∃ b o c, v = .slice (some ⟨b, o, none⟩) n c ∧ (∃ X, w.heap[b]? = some (.cells X e (0, 0))) ∧ ∀ K : World → Prop, (∀ w', Sl0 B e sz w' v n (cs.set q x) → Fr w.heap.size (fun b' => b' = b) w w' → w'.heap.size = w.heap.size → K w') → st1 w b (o + q) x K := by
  obtain ⟨A, c, rfl, hn, hl, h | ⟨b, o, X, rfl, hN, hb, hs, hk⟩⟩ := h
  · obtain ⟨rfl, _⟩ := h; omega
  refine ⟨b, o, c, rfl, ⟨X, hb⟩, fun K hK => ?_⟩
  rw [st1_at hb]
  refine ⟨hx, by omega, frz00 _ _, hK _ ⟨_, c, rfl, hn, by rw [List.length_set]; exact hl, .inr ⟨b, o, _, rfl, hN, put_same (lt_at hb), by simpa using hs, ?_⟩⟩ (Fr.refl.put (.inl rfl)) (size_put _ _ _)⟩
  intro k hk2
  rw [Array.getElem?_setIfInBounds, List.getElem?_set]
  by_cases hqk : q = k
  · subst hqk; rw [if_pos rfl, if_pos rfl, if_pos (by omega), if_pos (by omega)]
  · rw [if_neg (by omega), if_neg hqk]; exact hk k hk2
theorem rows_set {rows : List (List Value)} (h3 : ∀ r ∈ rows, r.length = 3) {i k : Nat} (hi : i < rows.length) (hk : k < 3) (x : Value) : (rows.flatMap id).set (i * 3 + k) x = (rows.set i (rows[i].set k x)).flatMap id := by
  have hl := flat_len id rows h3
  have h3' : ∀ r ∈ rows.set i (rows[i].set k x), r.length = 3 := fun r hr => by
    rcases List.mem_or_eq_of_mem_set hr with hr | rfl
    · exact h3 r hr
    · rw [List.length_set]; exact h3 _ (List.getElem_mem _)
  have hl' := flat_len id _ h3'
  rw [List.length_set] at hl'
  apply List.ext_getElem?
  intro q
  rcases Nat.lt_or_ge q (rows.length * 3) with hq | hq
  · rw [flat_set_get id h3 hi (by rw [id, List.length_set]; exact h3 _ (List.getElem_mem _)) q hq, List.getElem?_set]
    have e : q = q / 3 * 3 + q % 3 := by omega
    by_cases h1 : q / 3 = i
    · rw [if_pos h1]
      have hg := flat_get id h3 hi (k := q % 3) (Nat.mod_lt _ (by decide))
      have hq3 : i * 3 + q % 3 = q := by omega
      rw [hq3] at hg
      simp only [id, List.getElem?_set]
      by_cases h2 : k = q % 3
      · rw [if_pos (by omega), if_pos (by rw [hl]; omega), if_pos h2, if_pos (by rw [h3 _ (List.getElem_mem _)]; exact hk)]
      · rw [if_neg (by omega), if_neg h2, hg]
        rfl
    · rw [if_neg h1, if_neg (by omega)]
  · rw [List.getElem?_eq_none (by rw [List.length_set, hl]; exact hq), List.getElem?_eq_none (by rw [hl']; exact hq)]
theorem OwB.set {N : Nat} {w : World} {bs : List UInt8} {v : Value} (h : OwB N w bs v) {i : Nat} (hi : i < bs.length) (y : UInt8) : ∃ b o c, v = .slice (some ⟨b, o, none⟩) bs.length c ∧ ∀ K : World → Prop, (∀ w', OwB N w' (bs.set i y) v → Fr N No w w' → K w') → st1 w b (o + i) (.int .u8 y.toNat) K := by
  have hfm : ∀ l : List UInt8, (l.flatMap fun b => [Value.int .u8 b.toNat]) = l.map fun b => Value.int .u8 b.toNat := fun l => by
    induction l with
    | nil => rfl
    | cons b r ih => simp only [List.flatMap_cons, List.map_cons, ih]; rfl
  have h' : Ow N 5 1 w v bs.length (bs.flatMap fun b => [Value.int .u8 b.toNat]) := by rw [hfm]; exact h
  obtain ⟨b, o, c, e, h1⟩ := Ow.set1 h' (fun _ _ => rfl) rfl hi (k := 0) (by decide) y (.int .u8 y.toNat) rfl rfl
  refine ⟨b, o, c, e, fun K hK => ?_⟩
  have := h1 K fun w' hO hf _ => hK w' (by
    show Ow _ _ _ _ _ _ _
    rw [List.length_set]; rw [hfm] at hO; exact hO) hf
  simpa using this

theorem fateRun_flags (keep : List Bool) (i : Nat) (l : List Sec) : Secs.flags (fateRun keep i l).1 = List.replicate l.length true := by
  have H : ∀ (l : List Sec) (q : List Sec × Nat), Secs.flags q.1 = List.replicate q.1.length true → Secs.flags (l.foldl (fateStep keep) q).1 = List.replicate (q.1.length + l.length) true := by
    intro l
    induction l with
    | nil => intro q hq; simpa using hq
    | cons s r ih =>
      intro q hq
      have h1 := (fateStep_len keep q s).1
      have h2 := ih (fateStep keep q s) (by
        rw [h1, List.replicate_succ', ← hq]
        unfold fateStep
        split
        · rename_i hs; simp [Secs.flags, hs]
        · simp [Secs.flags])
      rw [List.foldl_cons, h2, h1, List.length_cons]
      congr 1; omega
  have := H l ([], i) rfl
  rw [List.length_nil, Nat.zero_add] at this
  exact this
theorem bytes_drop {l : List Sec} (h : ∀ s ∈ l, s.by_.length = 32) (k : Nat) : Secs.bytes (List.drop k l) = (Secs.bytes l).drop (32 * k) := by
  induction l generalizing k with
  | nil => simp [Secs.bytes]
  | cons s r ih =>
    cases k with
    | zero => simp
    | succ k =>
      have := ih (fun x hx => h x (List.mem_cons_of_mem _ hx)) k
      unfold Secs.bytes at *
      have hd : List.drop (32 * (k + 1)) s.by_ = [] := List.drop_eq_nil_of_le (by rw [h s (by simp)]; omega)
      rw [List.drop_succ_cons, this, List.flatMap_cons, List.drop_append, hd, h s (by simp), List.nil_append]
      congr 1
theorem bytes_dropc {S : List Sec} {j : Nat} (h : j < S.length) : Secs.bytes (List.drop j S) = S[j].by_ ++ Secs.bytes (List.drop (j + 1) S) :=
  (congrArg Secs.bytes (List.drop_eq_getElem_cons h)).trans (by unfold Secs.bytes; rw [List.flatMap_cons])
theorem F2.set {γ δ : Type} {R : γ → δ → Prop} {l : List γ} {m : List δ} (h : F2 R l m) {a : γ} {b : δ} (hab : R a b) : ∀ i, F2 R (l.set i a) (m.set i b) := by
  induction h with
  | nil => intro i; exact .nil
  | cons hx hr ih =>
    intro i
    cases i with
    | zero => exact .cons hab hr
    | succ i => exact .cons hx (ih i)
/-- The reference behind a restart, ahead of the loss. -/
def Rk.back (X : Rk) (done : Bool) (p : Pend) : Rk := { X with off := false, armed := 0, last := 0, fs := if done then p.carry X.fs else X.fs }
/-- The operation at which the power went, as the reference keeps it. -/
def Rk.pending (X : Rk) (p : Pend) : Prop := X.last = p.op ∧ (p.op ≠ 0 → X.a = p.fst ∧ X.b = p.snd ∧ X.n = p.num) ∧ p.num < 2 ^ 63
def RkS (N : Nat) (w : World) (x : Nat) : Nat → Prop := fun b => b = x ∨ N ≤ b ∧ ∃ Y, w.heap[b]? = some (.cells Y 96 (0, 0))

theorem ref_Restart {N : Nat} {w : World} {x : Nat} {X : Rk} {fv : Value} {done : Bool} {keep : List Bool} {kv : Value} {p : Pend} (h : RkAt N w x X fv) (hg : X.good) (hp : X.pending p) (hk : FlagsA (RkS N w x) w keep kv) (hkl : small keep.length) {R : Value → World → Prop}
    (h0 : X.off = false → ∀ w', IsRk N w' x X → Fr w.heap.size (RkS N w x) w w' → R (.int .i64 14) w')
    (h1 : X.off = true → Files.ok (X.back done p).fs ∧ (X.back done p).fs.total < 2 ^ 36 ∧ small (X.back done p).fs.length ∧ ∀ w', IsRk N w' x { X.back done p with fs := (fateFs keep (X.back done p).fs).1 } → Fr w.heap.size (RkS N w x) w w' → R (.int .i64 0) w') : cl Tryd.prog 28 #[ptr x, .agg #[.bool done, kv]] w R := by
  obtain ⟨ke, hk⟩ := hk
  refine C.r09_DocRestart ?_
  unfold F.r09_DocRestart
  simp only [bx_eq, cells_agg]
  generalize hw1 : w.alloc (.cells #[.bool done, kv] 34 (0, 0)) = w1
  have hf1 : Fr w.heap.size No w w1 := by rw [← hw1]; exact Fr.refl.alloc (Nat.le_refl _)
  have hat1 : w1.heap[w.heap.size]? = some (.cells #[.bool done, kv] 34 (0, 0)) := by rw [← hw1]; exact alloc_at rfl
  have hX1 := h.young hf1
  have hblk1 := hX1.blk
  unfold Rk.cells at hblk1
  simp only [T.ty_28, T.fa_52_2, T.ld_4, T.st_4, T.fa_52_3, T.st_3, T.fa_34_0, T.fa_52_5, T.ld_3, T.fa_52_6, T.ld_9, T.fa_52_7, T.fa_52_8, T.fa_52_0, T.ld_50, T.ln_50, T.bs_31_0, T.ia_50, T.fa_96_1, T.ld_31, T.ap_31_31, T.fa_96_2, T.ld_32, T.ln_32, T.ia_32, T.fa_34_1, T.ia_31, T.st_5, T.st_31, T.st_32, bx_eq, mm_eq, nc_eq, cnd_eq, bcond_true, bcond_false, pk_eq, pk_int, ex_eq, ldc_some, un_not, un_neg, mn_eq, mx_eq, bin_add, bin_sub, bin_mul, bin_lss, bin_leq, bin_gtr, bin_geq, bin_eql, bin_neq, bin_peq, bin_pne, bin_beq, bin_bne, bin_leqn, bin_lnen, bin_seq, bin_sne, bin_sge, bin_slt, rdc_cells, mapEs_some, frz_none, Nat.zero_add, Nat.add_zero, List.getElem?_toArray, List.getElem?_cons_zero, List.getElem?_cons_succ, Option.isNone_some, Option.isNone_none, Bool.not_true, Bool.not_false, ite_true, ite_false, Bool.false_eq_true, true_and, and_true, forall_const, false_implies, reduceCtorEq, Bool.true_eq_false, Nat.reduceAdd, Nat.reduceMul, Nat.reduceLT, Nat.reduceSub, Int.reduceEq, Int.reduceLT, decide_true, decide_false, List.setIfInBounds_toArray, List.set_cons_zero, List.set_cons_succ, List.size_toArray, List.length_cons, List.length_nil, frz00, one_int, one_bool, one_ptr, one_str, one_slice, one_map, one_func, one_nil, one_niliface, size_put, size_alloc, put_same, st1_put, bsc_empty, List.nil_append, List.append_nil, List.map_cons, List.map_nil, cells_ptr, cells_str, cells_int, cells_bool, cells_slice, cells_agg, cells_map, fillB_one, fillB_nil, bdc, hblk1, ptr, st1_at hblk1]
  rw [bcond_iff]
  refine ⟨fun ho => ?_, fun ho => ?_⟩
  · exact h0 (by simpa using ho) w1 ⟨_, hX1⟩ (hf1.no (Nat.le_refl _))
  have ho : X.off = true := by simpa using ho
  obtain ⟨hok, htot, hlen, hR⟩ := h1 ho
  have hx1 := lt_at hblk1
  simp only [T.ty_28, T.fa_52_2, T.ld_4, T.st_4, T.fa_52_3, T.st_3, T.fa_34_0, T.fa_52_5, T.ld_3, T.fa_52_6, T.ld_9, T.fa_52_7, T.fa_52_8, T.fa_52_0, T.ld_50, T.ln_50, T.bs_31_0, T.ia_50, T.fa_96_1, T.ld_31, T.ap_31_31, T.fa_96_2, T.ld_32, T.ln_32, T.ia_32, T.fa_34_1, T.ia_31, T.st_5, T.st_31, T.st_32, bx_eq, mm_eq, nc_eq, cnd_eq, bcond_true, bcond_false, pk_eq, pk_int, ex_eq, ldc_some, un_not, un_neg, mn_eq, mx_eq, bin_add, bin_sub, bin_mul, bin_lss, bin_leq, bin_gtr, bin_geq, bin_eql, bin_neq, bin_peq, bin_pne, bin_beq, bin_bne, bin_leqn, bin_lnen, bin_seq, bin_sne, bin_sge, bin_slt, rdc_cells, mapEs_some, frz_none, Nat.zero_add, Nat.add_zero, List.getElem?_toArray, List.getElem?_cons_zero, List.getElem?_cons_succ, Option.isNone_some, Option.isNone_none, Bool.not_true, Bool.not_false, ite_true, ite_false, Bool.false_eq_true, true_and, and_true, forall_const, false_implies, reduceCtorEq, Bool.true_eq_false, Nat.reduceAdd, Nat.reduceMul, Nat.reduceLT, Nat.reduceSub, Int.reduceEq, Int.reduceLT, decide_true, decide_false, List.setIfInBounds_toArray, List.set_cons_zero, List.set_cons_succ, List.size_toArray, List.length_cons, List.length_nil, frz00, one_int, one_bool, one_ptr, one_str, one_slice, one_map, one_func, one_nil, one_niliface, size_put, size_alloc, put_same, st1_put, bsc_empty, List.nil_append, List.append_nil, List.map_cons, List.map_nil, cells_ptr, cells_str, cells_int, cells_bool, cells_slice, cells_agg, cells_map, fillB_one, fillB_nil, bdc, st1_put hx1, hx1]
  have hp1 := hX1.put (X' := { X with off := false, armed := 0 }) hX1.fs
  unfold Rk.cells at hp1
  generalize hw2 : w1.put x (.cells #[fv, .int .i64 X.room, .bool false, .int .i64 ((0 : Nat) : Int), .int .i64 X.ops, .int .i64 X.last, .string X.a, .string X.b, .int .i64 X.n] 52 (0, 0)) = w2 at hp1
  have hblk2 := hp1.blk
  unfold Rk.cells at hblk2
  have hfp : Fr w1.heap.size (fun b => b = x) w1 w2 := by rw [← hw2]; exact Fr.refl.put (.inl rfl)
  have hnf : ¬ w.heap.size = x := fun e => by rw [e, hblk1] at hat1; injection hat1 with h; injection h with _ h; cases h
  have hat2 : w2.heap[w.heap.size]? = some (.cells #[.bool done, kv] 34 (0, 0)) := hfp.at hat1 (lt_at hat1) hnf
  have hfw2 : Fr w.heap.size (fun b => b = x) w w2 := (hf1.no (Nat.le_refl _)).then hfp hf1.1 fun _ _ h => h
  refine ⟨fun _ z => Fr w.heap.size (fun b => b = x) w z ∧ z.heap[w.heap.size]? = some (.cells #[.bool done, kv] 34 (0, 0)) ∧ ∃ fv2 Xl, RkAt N z x Xl fv2 ∧ ({ Xl with last := 0 } : Rk) = X.back done p, ?_, ?_⟩
  · refine ⟨fun s z => s = [.bool (done && !decide (X.last = 0))] ∧ z = w2, ?_, ?_⟩
    · simp only [hat2, bx_eq, mm_eq, nc_eq, cnd_eq, bcond_true, bcond_false, pk_eq, pk_int, ex_eq, ldc_some, un_not, un_neg, mn_eq, mx_eq, bin_add, bin_sub, bin_mul, bin_lss, bin_leq, bin_gtr, bin_geq, bin_eql, bin_neq, bin_peq, bin_pne, bin_beq, bin_bne, bin_leqn, bin_lnen, bin_seq, bin_sne, bin_sge, bin_slt, rdc_cells, mapEs_some, frz_none, Nat.zero_add, Nat.add_zero, List.getElem?_toArray, List.getElem?_cons_zero, List.getElem?_cons_succ, Option.isNone_some, Option.isNone_none, Bool.not_true, Bool.not_false, ite_true, ite_false, Bool.false_eq_true, true_and, and_true, forall_const, false_implies, reduceCtorEq, Bool.true_eq_false, Nat.reduceAdd, Nat.reduceMul, Nat.reduceLT, Nat.reduceSub, Int.reduceEq, Int.reduceLT, decide_true, decide_false, List.setIfInBounds_toArray, List.set_cons_zero, List.set_cons_succ, List.size_toArray, List.length_cons, List.length_nil, frz00, one_int, one_bool, one_ptr, one_str, one_slice, one_map, one_func, one_nil, one_niliface, size_put, size_alloc, put_same, st1_put, bsc_empty, List.nil_append, List.append_nil, List.map_cons, List.map_nil, cells_ptr, cells_str, cells_int, cells_bool, cells_slice, cells_agg, cells_map, fillB_one, fillB_nil, bdc, bcond_iff]
      refine ⟨fun hd => by rw [hd]; rfl, fun hd => by rw [hd]; rfl⟩
    rintro g z ⟨hg1, rfl⟩
    simp only [List.map_cons, List.map_nil, List.cons.injEq, and_true] at hg1
    rw [hg1, cnd_eq, bcond_iff]
    refine ⟨fun hb => ?_, fun hb => ?_⟩
    · have hb : done = true ∧ X.last ≠ 0 := by simpa using hb
      obtain ⟨hp_1, hp_2, hp_3⟩ := hp
      obtain ⟨ea, eb, en⟩ := hp_2 (by rw [← hp_1]; exact hb.2)
      refine ⟨fun z' => Fr z.heap.size No z z', Fr.refl.drew, ?_⟩
      have hz : ∀ z', Fr z.heap.size No z z' → z'.heap[x]? = some (.cells #[fv, .int .i64 X.room, .bool false, .int .i64 ((0 : Nat) : Int), .int .i64 X.ops, .int .i64 X.last, .string X.a, .string X.b, .int .i64 X.n] 52 (0, 0)) := fun z' hz => young_at hz hblk2
      refine opS_of (.pointer (some ⟨x, 5, none⟩)) (fun z' h0 K hK => by simp only [T.ty_28, T.fa_52_2, T.ld_4, T.st_4, T.fa_52_3, T.st_3, T.fa_34_0, T.fa_52_5, T.ld_3, T.fa_52_6, T.ld_9, T.fa_52_7, T.fa_52_8, T.fa_52_0, T.ld_50, T.ln_50, T.bs_31_0, T.ia_50, T.fa_96_1, T.ld_31, T.ap_31_31, T.fa_96_2, T.ld_32, T.ln_32, T.ia_32, T.fa_34_1, T.ia_31, T.st_5, T.st_31, T.st_32, bx_eq, mm_eq, nc_eq, cnd_eq, bcond_true, bcond_false, pk_eq, pk_int, ex_eq, ldc_some, un_not, un_neg, mn_eq, mx_eq, bin_add, bin_sub, bin_mul, bin_lss, bin_leq, bin_gtr, bin_geq, bin_eql, bin_neq, bin_peq, bin_pne, bin_beq, bin_bne, bin_leqn, bin_lnen, bin_seq, bin_sne, bin_sge, bin_slt, rdc_cells, mapEs_some, frz_none, Nat.zero_add, Nat.add_zero, List.getElem?_toArray, List.getElem?_cons_zero, List.getElem?_cons_succ, Option.isNone_some, Option.isNone_none, Bool.not_true, Bool.not_false, ite_true, ite_false, Bool.false_eq_true, true_and, and_true, forall_const, false_implies, reduceCtorEq, Bool.true_eq_false, Nat.reduceAdd, Nat.reduceMul, Nat.reduceLT, Nat.reduceSub, Int.reduceEq, Int.reduceLT, decide_true, decide_false, List.setIfInBounds_toArray, List.set_cons_zero, List.set_cons_succ, List.size_toArray, List.length_cons, List.length_nil, frz00, one_int, one_bool, one_ptr, one_str, one_slice, one_map, one_func, one_nil, one_niliface, size_put, size_alloc, put_same, st1_put, bsc_empty, List.nil_append, List.append_nil, List.map_cons, List.map_nil, cells_ptr, cells_str, cells_int, cells_bool, cells_slice, cells_agg, cells_map, fillB_one, fillB_nil, bdc]; exact hK) ?_
      refine opS_of (.int .i64 p.op) (fun z' h0 K hK => by simp only [T.ty_28, T.fa_52_2, T.ld_4, T.st_4, T.fa_52_3, T.st_3, T.fa_34_0, T.fa_52_5, T.ld_3, T.fa_52_6, T.ld_9, T.fa_52_7, T.fa_52_8, T.fa_52_0, T.ld_50, T.ln_50, T.bs_31_0, T.ia_50, T.fa_96_1, T.ld_31, T.ap_31_31, T.fa_96_2, T.ld_32, T.ln_32, T.ia_32, T.fa_34_1, T.ia_31, T.st_5, T.st_31, T.st_32, bx_eq, mm_eq, nc_eq, cnd_eq, bcond_true, bcond_false, pk_eq, pk_int, ex_eq, ldc_some, un_not, un_neg, mn_eq, mx_eq, bin_add, bin_sub, bin_mul, bin_lss, bin_leq, bin_gtr, bin_geq, bin_eql, bin_neq, bin_peq, bin_pne, bin_beq, bin_bne, bin_leqn, bin_lnen, bin_seq, bin_sne, bin_sge, bin_slt, rdc_cells, mapEs_some, frz_none, Nat.zero_add, Nat.add_zero, List.getElem?_toArray, List.getElem?_cons_zero, List.getElem?_cons_succ, Option.isNone_some, Option.isNone_none, Bool.not_true, Bool.not_false, ite_true, ite_false, Bool.false_eq_true, true_and, and_true, forall_const, false_implies, reduceCtorEq, Bool.true_eq_false, Nat.reduceAdd, Nat.reduceMul, Nat.reduceLT, Nat.reduceSub, Int.reduceEq, Int.reduceLT, decide_true, decide_false, List.setIfInBounds_toArray, List.set_cons_zero, List.set_cons_succ, List.size_toArray, List.length_cons, List.length_nil, frz00, one_int, one_bool, one_ptr, one_str, one_slice, one_map, one_func, one_nil, one_niliface, size_put, size_alloc, put_same, st1_put, bsc_empty, List.nil_append, List.append_nil, List.map_cons, List.map_nil, cells_ptr, cells_str, cells_int, cells_bool, cells_slice, cells_agg, cells_map, fillB_one, fillB_nil, bdc, hz z' h0]; rw [hp_1]; exact hK) ?_
      refine opS_of (.pointer (some ⟨x, 6, none⟩)) (fun z' h0 K hK => by simp only [T.ty_28, T.fa_52_2, T.ld_4, T.st_4, T.fa_52_3, T.st_3, T.fa_34_0, T.fa_52_5, T.ld_3, T.fa_52_6, T.ld_9, T.fa_52_7, T.fa_52_8, T.fa_52_0, T.ld_50, T.ln_50, T.bs_31_0, T.ia_50, T.fa_96_1, T.ld_31, T.ap_31_31, T.fa_96_2, T.ld_32, T.ln_32, T.ia_32, T.fa_34_1, T.ia_31, T.st_5, T.st_31, T.st_32, bx_eq, mm_eq, nc_eq, cnd_eq, bcond_true, bcond_false, pk_eq, pk_int, ex_eq, ldc_some, un_not, un_neg, mn_eq, mx_eq, bin_add, bin_sub, bin_mul, bin_lss, bin_leq, bin_gtr, bin_geq, bin_eql, bin_neq, bin_peq, bin_pne, bin_beq, bin_bne, bin_leqn, bin_lnen, bin_seq, bin_sne, bin_sge, bin_slt, rdc_cells, mapEs_some, frz_none, Nat.zero_add, Nat.add_zero, List.getElem?_toArray, List.getElem?_cons_zero, List.getElem?_cons_succ, Option.isNone_some, Option.isNone_none, Bool.not_true, Bool.not_false, ite_true, ite_false, Bool.false_eq_true, true_and, and_true, forall_const, false_implies, reduceCtorEq, Bool.true_eq_false, Nat.reduceAdd, Nat.reduceMul, Nat.reduceLT, Nat.reduceSub, Int.reduceEq, Int.reduceLT, decide_true, decide_false, List.setIfInBounds_toArray, List.set_cons_zero, List.set_cons_succ, List.size_toArray, List.length_cons, List.length_nil, frz00, one_int, one_bool, one_ptr, one_str, one_slice, one_map, one_func, one_nil, one_niliface, size_put, size_alloc, put_same, st1_put, bsc_empty, List.nil_append, List.append_nil, List.map_cons, List.map_nil, cells_ptr, cells_str, cells_int, cells_bool, cells_slice, cells_agg, cells_map, fillB_one, fillB_nil, bdc]; exact hK) ?_
      refine opS_of (.string p.fst) (fun z' h0 K hK => by simp only [T.ty_28, T.fa_52_2, T.ld_4, T.st_4, T.fa_52_3, T.st_3, T.fa_34_0, T.fa_52_5, T.ld_3, T.fa_52_6, T.ld_9, T.fa_52_7, T.fa_52_8, T.fa_52_0, T.ld_50, T.ln_50, T.bs_31_0, T.ia_50, T.fa_96_1, T.ld_31, T.ap_31_31, T.fa_96_2, T.ld_32, T.ln_32, T.ia_32, T.fa_34_1, T.ia_31, T.st_5, T.st_31, T.st_32, bx_eq, mm_eq, nc_eq, cnd_eq, bcond_true, bcond_false, pk_eq, pk_int, ex_eq, ldc_some, un_not, un_neg, mn_eq, mx_eq, bin_add, bin_sub, bin_mul, bin_lss, bin_leq, bin_gtr, bin_geq, bin_eql, bin_neq, bin_peq, bin_pne, bin_beq, bin_bne, bin_leqn, bin_lnen, bin_seq, bin_sne, bin_sge, bin_slt, rdc_cells, mapEs_some, frz_none, Nat.zero_add, Nat.add_zero, List.getElem?_toArray, List.getElem?_cons_zero, List.getElem?_cons_succ, Option.isNone_some, Option.isNone_none, Bool.not_true, Bool.not_false, ite_true, ite_false, Bool.false_eq_true, true_and, and_true, forall_const, false_implies, reduceCtorEq, Bool.true_eq_false, Nat.reduceAdd, Nat.reduceMul, Nat.reduceLT, Nat.reduceSub, Int.reduceEq, Int.reduceLT, decide_true, decide_false, List.setIfInBounds_toArray, List.set_cons_zero, List.set_cons_succ, List.size_toArray, List.length_cons, List.length_nil, frz00, one_int, one_bool, one_ptr, one_str, one_slice, one_map, one_func, one_nil, one_niliface, size_put, size_alloc, put_same, st1_put, bsc_empty, List.nil_append, List.append_nil, List.map_cons, List.map_nil, cells_ptr, cells_str, cells_int, cells_bool, cells_slice, cells_agg, cells_map, fillB_one, fillB_nil, bdc, hz z' h0]; rw [ea]; exact hK) ?_
      refine opS_of (.pointer (some ⟨x, 7, none⟩)) (fun z' h0 K hK => by simp only [T.ty_28, T.fa_52_2, T.ld_4, T.st_4, T.fa_52_3, T.st_3, T.fa_34_0, T.fa_52_5, T.ld_3, T.fa_52_6, T.ld_9, T.fa_52_7, T.fa_52_8, T.fa_52_0, T.ld_50, T.ln_50, T.bs_31_0, T.ia_50, T.fa_96_1, T.ld_31, T.ap_31_31, T.fa_96_2, T.ld_32, T.ln_32, T.ia_32, T.fa_34_1, T.ia_31, T.st_5, T.st_31, T.st_32, bx_eq, mm_eq, nc_eq, cnd_eq, bcond_true, bcond_false, pk_eq, pk_int, ex_eq, ldc_some, un_not, un_neg, mn_eq, mx_eq, bin_add, bin_sub, bin_mul, bin_lss, bin_leq, bin_gtr, bin_geq, bin_eql, bin_neq, bin_peq, bin_pne, bin_beq, bin_bne, bin_leqn, bin_lnen, bin_seq, bin_sne, bin_sge, bin_slt, rdc_cells, mapEs_some, frz_none, Nat.zero_add, Nat.add_zero, List.getElem?_toArray, List.getElem?_cons_zero, List.getElem?_cons_succ, Option.isNone_some, Option.isNone_none, Bool.not_true, Bool.not_false, ite_true, ite_false, Bool.false_eq_true, true_and, and_true, forall_const, false_implies, reduceCtorEq, Bool.true_eq_false, Nat.reduceAdd, Nat.reduceMul, Nat.reduceLT, Nat.reduceSub, Int.reduceEq, Int.reduceLT, decide_true, decide_false, List.setIfInBounds_toArray, List.set_cons_zero, List.set_cons_succ, List.size_toArray, List.length_cons, List.length_nil, frz00, one_int, one_bool, one_ptr, one_str, one_slice, one_map, one_func, one_nil, one_niliface, size_put, size_alloc, put_same, st1_put, bsc_empty, List.nil_append, List.append_nil, List.map_cons, List.map_nil, cells_ptr, cells_str, cells_int, cells_bool, cells_slice, cells_agg, cells_map, fillB_one, fillB_nil, bdc]; exact hK) ?_
      refine opS_of (.string p.snd) (fun z' h0 K hK => by simp only [T.ty_28, T.fa_52_2, T.ld_4, T.st_4, T.fa_52_3, T.st_3, T.fa_34_0, T.fa_52_5, T.ld_3, T.fa_52_6, T.ld_9, T.fa_52_7, T.fa_52_8, T.fa_52_0, T.ld_50, T.ln_50, T.bs_31_0, T.ia_50, T.fa_96_1, T.ld_31, T.ap_31_31, T.fa_96_2, T.ld_32, T.ln_32, T.ia_32, T.fa_34_1, T.ia_31, T.st_5, T.st_31, T.st_32, bx_eq, mm_eq, nc_eq, cnd_eq, bcond_true, bcond_false, pk_eq, pk_int, ex_eq, ldc_some, un_not, un_neg, mn_eq, mx_eq, bin_add, bin_sub, bin_mul, bin_lss, bin_leq, bin_gtr, bin_geq, bin_eql, bin_neq, bin_peq, bin_pne, bin_beq, bin_bne, bin_leqn, bin_lnen, bin_seq, bin_sne, bin_sge, bin_slt, rdc_cells, mapEs_some, frz_none, Nat.zero_add, Nat.add_zero, List.getElem?_toArray, List.getElem?_cons_zero, List.getElem?_cons_succ, Option.isNone_some, Option.isNone_none, Bool.not_true, Bool.not_false, ite_true, ite_false, Bool.false_eq_true, true_and, and_true, forall_const, false_implies, reduceCtorEq, Bool.true_eq_false, Nat.reduceAdd, Nat.reduceMul, Nat.reduceLT, Nat.reduceSub, Int.reduceEq, Int.reduceLT, decide_true, decide_false, List.setIfInBounds_toArray, List.set_cons_zero, List.set_cons_succ, List.size_toArray, List.length_cons, List.length_nil, frz00, one_int, one_bool, one_ptr, one_str, one_slice, one_map, one_func, one_nil, one_niliface, size_put, size_alloc, put_same, st1_put, bsc_empty, List.nil_append, List.append_nil, List.map_cons, List.map_nil, cells_ptr, cells_str, cells_int, cells_bool, cells_slice, cells_agg, cells_map, fillB_one, fillB_nil, bdc, hz z' h0]; rw [eb]; exact hK) ?_
      refine opS_of (.pointer (some ⟨x, 8, none⟩)) (fun z' h0 K hK => by simp only [T.ty_28, T.fa_52_2, T.ld_4, T.st_4, T.fa_52_3, T.st_3, T.fa_34_0, T.fa_52_5, T.ld_3, T.fa_52_6, T.ld_9, T.fa_52_7, T.fa_52_8, T.fa_52_0, T.ld_50, T.ln_50, T.bs_31_0, T.ia_50, T.fa_96_1, T.ld_31, T.ap_31_31, T.fa_96_2, T.ld_32, T.ln_32, T.ia_32, T.fa_34_1, T.ia_31, T.st_5, T.st_31, T.st_32, bx_eq, mm_eq, nc_eq, cnd_eq, bcond_true, bcond_false, pk_eq, pk_int, ex_eq, ldc_some, un_not, un_neg, mn_eq, mx_eq, bin_add, bin_sub, bin_mul, bin_lss, bin_leq, bin_gtr, bin_geq, bin_eql, bin_neq, bin_peq, bin_pne, bin_beq, bin_bne, bin_leqn, bin_lnen, bin_seq, bin_sne, bin_sge, bin_slt, rdc_cells, mapEs_some, frz_none, Nat.zero_add, Nat.add_zero, List.getElem?_toArray, List.getElem?_cons_zero, List.getElem?_cons_succ, Option.isNone_some, Option.isNone_none, Bool.not_true, Bool.not_false, ite_true, ite_false, Bool.false_eq_true, true_and, and_true, forall_const, false_implies, reduceCtorEq, Bool.true_eq_false, Nat.reduceAdd, Nat.reduceMul, Nat.reduceLT, Nat.reduceSub, Int.reduceEq, Int.reduceLT, decide_true, decide_false, List.setIfInBounds_toArray, List.set_cons_zero, List.set_cons_succ, List.size_toArray, List.length_cons, List.length_nil, frz00, one_int, one_bool, one_ptr, one_str, one_slice, one_map, one_func, one_nil, one_niliface, size_put, size_alloc, put_same, st1_put, bsc_empty, List.nil_append, List.append_nil, List.map_cons, List.map_nil, cells_ptr, cells_str, cells_int, cells_bool, cells_slice, cells_agg, cells_map, fillB_one, fillB_nil, bdc]; exact hK) ?_
      refine opS_of (.int .i64 (p.num : Nat)) (fun z' h0 K hK => by simp only [T.ty_28, T.fa_52_2, T.ld_4, T.st_4, T.fa_52_3, T.st_3, T.fa_34_0, T.fa_52_5, T.ld_3, T.fa_52_6, T.ld_9, T.fa_52_7, T.fa_52_8, T.fa_52_0, T.ld_50, T.ln_50, T.bs_31_0, T.ia_50, T.fa_96_1, T.ld_31, T.ap_31_31, T.fa_96_2, T.ld_32, T.ln_32, T.ia_32, T.fa_34_1, T.ia_31, T.st_5, T.st_31, T.st_32, bx_eq, mm_eq, nc_eq, cnd_eq, bcond_true, bcond_false, pk_eq, pk_int, ex_eq, ldc_some, un_not, un_neg, mn_eq, mx_eq, bin_add, bin_sub, bin_mul, bin_lss, bin_leq, bin_gtr, bin_geq, bin_eql, bin_neq, bin_peq, bin_pne, bin_beq, bin_bne, bin_leqn, bin_lnen, bin_seq, bin_sne, bin_sge, bin_slt, rdc_cells, mapEs_some, frz_none, Nat.zero_add, Nat.add_zero, List.getElem?_toArray, List.getElem?_cons_zero, List.getElem?_cons_succ, Option.isNone_some, Option.isNone_none, Bool.not_true, Bool.not_false, ite_true, ite_false, Bool.false_eq_true, true_and, and_true, forall_const, false_implies, reduceCtorEq, Bool.true_eq_false, Nat.reduceAdd, Nat.reduceMul, Nat.reduceLT, Nat.reduceSub, Int.reduceEq, Int.reduceLT, decide_true, decide_false, List.setIfInBounds_toArray, List.set_cons_zero, List.set_cons_succ, List.size_toArray, List.length_cons, List.length_nil, frz00, one_int, one_bool, one_ptr, one_str, one_slice, one_map, one_func, one_nil, one_niliface, size_put, size_alloc, put_same, st1_put, bsc_empty, List.nil_append, List.append_nil, List.map_cons, List.map_nil, cells_ptr, cells_str, cells_int, cells_bool, cells_slice, cells_agg, cells_map, fillB_one, fillB_nil, bdc, hz z' h0]; rw [en]; exact hK) ?_
      refine ref_carry (hp1.young (w' := z.drew) Fr.refl.drew) hg.few hg.ok hp_3 fun z3 fv3 h3 hf3 => ?_
      have hf3' : Fr w.heap.size (fun b => b = x) w z3 := hfw2.then hf3 hfw2.1 fun _ _ h => h
      exact ⟨hf3', hf3.at hat2 (lt_at hat2) hnf, fv3, _, h3, by unfold Rk.back; rw [hb.1]; rfl⟩
    · refine ⟨hfw2, hat2, fv, _, hp1, ?_⟩
      · unfold Rk.back
        cases hdn : done with
        | false => rfl
        | true =>
          rw [hdn] at hb
          have hl : X.last = 0 := by simpa using hb
          have hop : p.op = 0 := by rw [← hp.1, hl]
          cases p with
          | nothing => rfl
          | _ => cases hop
  rintro g1 z ⟨hfz, hatz, fv2, Xl, hz, hXl⟩
  rw [st1_at hz.blk]
  refine ⟨rfl, by simp [Rk.cells], frz00 _ _, ?_⟩
  have hzp := hz.put (X' := X.back done p) (by rw [← hXl]; exact hz.fs)
  have hfzp : Fr z.heap.size (fun b => b = x) z (z.put x (.cells ((X.back done p).cells fv2) 52 (0, 0))) := Fr.refl.put (.inl rfl)
  rw [show (Xl.cells fv2).setIfInBounds 5 (.int .i64 0) = ({ Xl with last := 0 } : Rk).cells fv2 from rfl, hXl]
  generalize z.put x (.cells ((X.back done p).cells fv2) 52 (0, 0)) = y0 at hzp hfzp
  have hy : RkAt N y0 x (X.back done p) fv2 := hzp
  have haty : y0.heap[w.heap.size]? = some (.cells #[.bool done, kv] 34 (0, 0)) := hfzp.at hatz (lt_at hatz) hnf
  have hfy : Fr w.heap.size (RkS N w x) w y0 := (hfz.then hfzp hfz.1 fun _ _ h => h).mono (Nat.le_refl _) fun b _ h => .inl h
  have hblk := hy.blk
  unfold Rk.cells at hblk
  generalize hXb : X.back done p = Xb at *
  generalize hL : Xb.fs = L at *
  have hyfs : FilesV (fun b => N ≤ b) y0 L fv2 := by rw [← hL]; exact hy.fs
  obtain ⟨A, c, rfl⟩ := hyfs.shape
  have hlen : L.length < 2 ^ 36 := hlen
  simp only [hblk, T.ty_28, T.fa_52_2, T.ld_4, T.st_4, T.fa_52_3, T.st_3, T.fa_34_0, T.fa_52_5, T.ld_3, T.fa_52_6, T.ld_9, T.fa_52_7, T.fa_52_8, T.fa_52_0, T.ld_50, T.ln_50, T.bs_31_0, T.ia_50, T.fa_96_1, T.ld_31, T.ap_31_31, T.fa_96_2, T.ld_32, T.ln_32, T.ia_32, T.fa_34_1, T.ia_31, T.st_5, T.st_31, T.st_32, bx_eq, mm_eq, nc_eq, cnd_eq, bcond_true, bcond_false, pk_eq, pk_int, ex_eq, ldc_some, un_not, un_neg, mn_eq, mx_eq, bin_add, bin_sub, bin_mul, bin_lss, bin_leq, bin_gtr, bin_geq, bin_eql, bin_neq, bin_peq, bin_pne, bin_beq, bin_bne, bin_leqn, bin_lnen, bin_seq, bin_sne, bin_sge, bin_slt, rdc_cells, mapEs_some, frz_none, Nat.zero_add, Nat.add_zero, List.getElem?_toArray, List.getElem?_cons_zero, List.getElem?_cons_succ, Option.isNone_some, Option.isNone_none, Bool.not_true, Bool.not_false, ite_true, ite_false, Bool.false_eq_true, true_and, and_true, forall_const, false_implies, reduceCtorEq, Bool.true_eq_false, Nat.reduceAdd, Nat.reduceMul, Nat.reduceLT, Nat.reduceSub, Int.reduceEq, Int.reduceLT, decide_true, decide_false, List.setIfInBounds_toArray, List.set_cons_zero, List.set_cons_succ, List.size_toArray, List.length_cons, List.length_nil, frz00, one_int, one_bool, one_ptr, one_str, one_slice, one_map, one_func, one_nil, one_niliface, size_put, size_alloc, put_same, st1_put, bsc_empty, List.nil_append, List.append_nil, List.map_cons, List.map_nil, cells_ptr, cells_str, cells_int, cells_bool, cells_slice, cells_agg, cells_map, fillB_one, fillB_nil, bdc]
  have hblkx : ∀ z' : World, y0.heap[x]? = z'.heap[x]? → z'.heap[x]? = some (.cells #[.slice A L.length c, .int .i64 Xb.room, .bool Xb.off, .int .i64 Xb.armed, .int .i64 Xb.ops, .int .i64 Xb.last, .string Xb.a, .string Xb.b, .int .i64 Xb.n] 52 (0, 0)) := fun z' e => by rw [← e, hblk]
  refine ⟨fun s u => ∃ i : Nat, s = [.int .i64 ((fateFs keep (L.take i)).2 : Nat), .int .i64 i] ∧ i ≤ L.length ∧ Fr w.heap.size (RkS N w x) w u ∧ u.heap[w.heap.size]? = some (.cells #[.bool done, kv] 34 (0, 0)) ∧ u.heap[x]? = y0.heap[x]? ∧ FilesV (fun b => N ≤ b) u ((fateFs keep (L.take i)).1 ++ List.drop i L) (.slice A L.length c), fun s _ => match s with | [_, .int _ i] => (L.length - i).toNat | _ => 0, ⟨0, rfl, Nat.zero_le _, hfy, haty, rfl, by simpa [fateFs] using hyfs⟩, ?_⟩
  rintro g3 u ⟨i, hg3, hi, hfu, hatu, hux, hufs⟩
  simp only [List.map_cons, List.map_nil, List.cons.injEq, and_true] at hg3
  obtain ⟨hg3, hg4⟩ := hg3
  have hmlen : ((fateFs keep (L.take i)).1 ++ List.drop i L).length = L.length := by
    have := congrArg List.length (fateFs_keys keep (L.take i))
    simp only [List.length_map, List.length_take] at this
    rw [List.length_append, this, List.length_drop]; omega
  have hublk := hblkx u hux.symm
  simp only [hg3, hg4, T.ty_28, T.fa_52_2, T.ld_4, T.st_4, T.fa_52_3, T.st_3, T.fa_34_0, T.fa_52_5, T.ld_3, T.fa_52_6, T.ld_9, T.fa_52_7, T.fa_52_8, T.fa_52_0, T.ld_50, T.ln_50, T.bs_31_0, T.ia_50, T.fa_96_1, T.ld_31, T.ap_31_31, T.fa_96_2, T.ld_32, T.ln_32, T.ia_32, T.fa_34_1, T.ia_31, T.st_5, T.st_31, T.st_32, bx_eq, mm_eq, nc_eq, cnd_eq, bcond_true, bcond_false, pk_eq, pk_int, ex_eq, ldc_some, un_not, un_neg, mn_eq, mx_eq, bin_add, bin_sub, bin_mul, bin_lss, bin_leq, bin_gtr, bin_geq, bin_eql, bin_neq, bin_peq, bin_pne, bin_beq, bin_bne, bin_leqn, bin_lnen, bin_seq, bin_sne, bin_sge, bin_slt, rdc_cells, mapEs_some, frz_none, Nat.zero_add, Nat.add_zero, List.getElem?_toArray, List.getElem?_cons_zero, List.getElem?_cons_succ, Option.isNone_some, Option.isNone_none, Bool.not_true, Bool.not_false, ite_true, ite_false, Bool.false_eq_true, true_and, and_true, forall_const, false_implies, reduceCtorEq, Bool.true_eq_false, Nat.reduceAdd, Nat.reduceMul, Nat.reduceLT, Nat.reduceSub, Int.reduceEq, Int.reduceLT, decide_true, decide_false, List.setIfInBounds_toArray, List.set_cons_zero, List.set_cons_succ, List.size_toArray, List.length_cons, List.length_nil, frz00, one_int, one_bool, one_ptr, one_str, one_slice, one_map, one_func, one_nil, one_niliface, size_put, size_alloc, put_same, st1_put, bsc_empty, List.nil_append, List.append_nil, List.map_cons, List.map_nil, cells_ptr, cells_str, cells_int, cells_bool, cells_slice, cells_agg, cells_map, fillB_one, fillB_nil, bdc]
  rw [bcond_dec]
  refine ⟨fun hlt => ?_, fun hge => ?_⟩
  · have hlt : i < L.length := by omega
    obtain ⟨rows, r1, r2, r3⟩ := hufs
    have hrl : rows.length = L.length := by rw [r1.length_eq, hmlen]
    have hfl : (fateFs keep (L.take i)).1.length = i := by
      have := congrArg List.length (fateFs_keys keep (L.take i))
      simp only [List.length_map, List.length_take] at this; omega
    have hir : i < rows.length := by omega
    have him : i < ((fateFs keep (L.take i)).1 ++ List.drop i L).length := by omega
    have hFC := r1.get hir him
    rw [mid_get hfl hlt him] at hFC
    obtain ⟨bv, sv, hrow, hbv, hsv, h32⟩ := hFC
    obtain ⟨bF, oF, cF, XF, eF, hNF, hbF, hsF, hXF⟩ := r3.at (i := i) (by omega)
    rw [hmlen] at eF hsF hXF
    injection eF with e1 e2 e3
    subst e1; subst e3
    have hcell : ∀ z' : World, z'.heap[bF]? = u.heap[bF]? → ∀ k, k < 3 → rdc z'.heap[bF]? (oF + i * 3 + k) = [Value.string (L[i]).1, bv, sv][k]? := fun z' e k hk => by
      rw [e, hbF, rdc_cells, Nat.add_assoc, hXF _ (by omega), flat_get id r2 hir hk, id, hrow]
    have hfu1 : Fr u.heap.size No u (u.alloc (.cells #[] 5)) := Fr.refl.alloc (Nat.le_refl _)
    have hx1' : ∀ z' : World, Fr u.heap.size No u z' → z'.heap[x]? = some (.cells #[.slice (some ⟨bF, oF, none⟩) L.length c, .int .i64 Xb.room, .bool Xb.off, .int .i64 Xb.armed, .int .i64 Xb.ops, .int .i64 Xb.last, .string Xb.a, .string Xb.b, .int .i64 Xb.n] 52 (0, 0)) := fun z' hz' => young_at hz' hublk
    have hbF1 : ∀ z' : World, Fr u.heap.size No u z' → z'.heap[bF]? = u.heap[bF]? := fun z' hz' => hz'.2.1 _ (lt_at hbF) no_not
    have hc1 := hcell _ (hbF1 _ hfu1) 1 (by decide)
    simp only [hx1' _ hfu1, T.ty_28, T.fa_52_2, T.ld_4, T.st_4, T.fa_52_3, T.st_3, T.fa_34_0, T.fa_52_5, T.ld_3, T.fa_52_6, T.ld_9, T.fa_52_7, T.fa_52_8, T.fa_52_0, T.ld_50, T.ln_50, T.bs_31_0, T.ia_50, T.fa_96_1, T.ld_31, T.ap_31_31, T.fa_96_2, T.ld_32, T.ln_32, T.ia_32, T.fa_34_1, T.ia_31, T.st_5, T.st_31, T.st_32, bx_eq, mm_eq, nc_eq, cnd_eq, bcond_true, bcond_false, pk_eq, pk_int, ex_eq, ldc_some, un_not, un_neg, mn_eq, mx_eq, bin_add, bin_sub, bin_mul, bin_lss, bin_leq, bin_gtr, bin_geq, bin_eql, bin_neq, bin_peq, bin_pne, bin_beq, bin_bne, bin_leqn, bin_lnen, bin_seq, bin_sne, bin_sge, bin_slt, rdc_cells, mapEs_some, frz_none, Nat.zero_add, Nat.add_zero, List.getElem?_toArray, List.getElem?_cons_zero, List.getElem?_cons_succ, Option.isNone_some, Option.isNone_none, Bool.not_true, Bool.not_false, ite_true, ite_false, Bool.false_eq_true, true_and, and_true, forall_const, false_implies, reduceCtorEq, Bool.true_eq_false, Nat.reduceAdd, Nat.reduceMul, Nat.reduceLT, Nat.reduceSub, Int.reduceEq, Int.reduceLT, decide_true, decide_false, List.setIfInBounds_toArray, List.set_cons_zero, List.set_cons_succ, List.size_toArray, List.length_cons, List.length_nil, frz00, one_int, one_bool, one_ptr, one_str, one_slice, one_map, one_func, one_nil, one_niliface, size_put, size_alloc, put_same, st1_put, bsc_empty, List.nil_append, List.append_nil, List.map_cons, List.map_nil, cells_ptr, cells_str, cells_int, cells_bool, cells_slice, cells_agg, cells_map, fillB_one, fillB_nil, bdc, Int.toNat_natCast, hc1]
    refine ⟨by omega, by omega, ?_⟩
    have hLtot := total_take L i hlt
    have hk0 := fateFs_num keep (L.take i)
    have hbl := bytes_len h32
    have hok : (L[i]).2.length < 2 ^ 36 := by omega
    refine OwB.app (OwB.made u) (hbv.young hfu1) hfu1.1 (by simp) (by omega) fun v71 z2 ho2 hf2 _ => ?_
    rw [List.nil_append] at ho2
    obtain ⟨A7, c7, rfl⟩ := ho2.shape
    have hfz2 : Fr u.heap.size No u z2 := hfu1.trans hf2
    have hc2 := hcell _ (hbF1 _ hfz2) 2 (by decide)
    simp only [hx1' _ hfz2, T.ty_28, T.fa_52_2, T.ld_4, T.st_4, T.fa_52_3, T.st_3, T.fa_34_0, T.fa_52_5, T.ld_3, T.fa_52_6, T.ld_9, T.fa_52_7, T.fa_52_8, T.fa_52_0, T.ld_50, T.ln_50, T.bs_31_0, T.ia_50, T.fa_96_1, T.ld_31, T.ap_31_31, T.fa_96_2, T.ld_32, T.ln_32, T.ia_32, T.fa_34_1, T.ia_31, T.st_5, T.st_31, T.st_32, bx_eq, mm_eq, nc_eq, cnd_eq, bcond_true, bcond_false, pk_eq, pk_int, ex_eq, ldc_some, un_not, un_neg, mn_eq, mx_eq, bin_add, bin_sub, bin_mul, bin_lss, bin_leq, bin_gtr, bin_geq, bin_eql, bin_neq, bin_peq, bin_pne, bin_beq, bin_bne, bin_leqn, bin_lnen, bin_seq, bin_sne, bin_sge, bin_slt, rdc_cells, mapEs_some, frz_none, Nat.zero_add, Nat.add_zero, List.getElem?_toArray, List.getElem?_cons_zero, List.getElem?_cons_succ, Option.isNone_some, Option.isNone_none, Bool.not_true, Bool.not_false, ite_true, ite_false, Bool.false_eq_true, true_and, and_true, forall_const, false_implies, reduceCtorEq, Bool.true_eq_false, Nat.reduceAdd, Nat.reduceMul, Nat.reduceLT, Nat.reduceSub, Int.reduceEq, Int.reduceLT, decide_true, decide_false, List.setIfInBounds_toArray, List.set_cons_zero, List.set_cons_succ, List.size_toArray, List.length_cons, List.length_nil, frz00, one_int, one_bool, one_ptr, one_str, one_slice, one_map, one_func, one_nil, one_niliface, size_put, size_alloc, put_same, st1_put, bsc_empty, List.nil_append, List.append_nil, List.map_cons, List.map_nil, cells_ptr, cells_str, cells_int, cells_bool, cells_slice, cells_agg, cells_map, fillB_one, fillB_nil, bdc, Int.toNat_natCast, hc2]
    refine ⟨by omega, by omega, ?_⟩
    obtain ⟨SA, sc, rfl⟩ := hsv.shape
    simp only [T.ty_28, T.fa_52_2, T.ld_4, T.st_4, T.fa_52_3, T.st_3, T.fa_34_0, T.fa_52_5, T.ld_3, T.fa_52_6, T.ld_9, T.fa_52_7, T.fa_52_8, T.fa_52_0, T.ld_50, T.ln_50, T.bs_31_0, T.ia_50, T.fa_96_1, T.ld_31, T.ap_31_31, T.fa_96_2, T.ld_32, T.ln_32, T.ia_32, T.fa_34_1, T.ia_31, T.st_5, T.st_31, T.st_32, bx_eq, mm_eq, nc_eq, cnd_eq, bcond_true, bcond_false, pk_eq, pk_int, ex_eq, ldc_some, un_not, un_neg, mn_eq, mx_eq, bin_add, bin_sub, bin_mul, bin_lss, bin_leq, bin_gtr, bin_geq, bin_eql, bin_neq, bin_peq, bin_pne, bin_beq, bin_bne, bin_leqn, bin_lnen, bin_seq, bin_sne, bin_sge, bin_slt, rdc_cells, mapEs_some, frz_none, Nat.zero_add, Nat.add_zero, List.getElem?_toArray, List.getElem?_cons_zero, List.getElem?_cons_succ, Option.isNone_some, Option.isNone_none, Bool.not_true, Bool.not_false, ite_true, ite_false, Bool.false_eq_true, true_and, and_true, forall_const, false_implies, reduceCtorEq, Bool.true_eq_false, Nat.reduceAdd, Nat.reduceMul, Nat.reduceLT, Nat.reduceSub, Int.reduceEq, Int.reduceLT, decide_true, decide_false, List.setIfInBounds_toArray, List.set_cons_zero, List.set_cons_succ, List.size_toArray, List.length_cons, List.length_nil, frz00, one_int, one_bool, one_ptr, one_str, one_slice, one_map, one_func, one_nil, one_niliface, size_put, size_alloc, put_same, st1_put, bsc_empty, List.nil_append, List.append_nil, List.map_cons, List.map_nil, cells_ptr, cells_str, cells_int, cells_bool, cells_slice, cells_agg, cells_map, fillB_one, fillB_nil, bdc, flags_len]
    generalize hS : (L[i]).2 = S at *
    generalize hk0e : (fateFs keep (L.take i)).2 = k0 at *
    refine ⟨fun s z' => ∃ j : Nat, s = [.int .i64 ((fateRun keep k0 (S.take j)).2 : Nat), .int .i64 j] ∧ j ≤ S.length ∧ Fr u.heap.size No u z' ∧ OwB u.heap.size z' (Secs.bytes ((fateRun keep k0 (S.take j)).1 ++ List.drop j S)) (.slice A7 (Secs.bytes S).length c7), fun s _ => match s with | [_, .int _ i] => (S.length - i).toNat | _ => 0, ⟨0, rfl, Nat.zero_le _, hfz2, by simpa [fateRun] using ho2⟩, ?_⟩
    rintro g4 z3 ⟨j, hg5, hj, hfz3, hO3⟩
    simp only [List.map_cons, List.map_nil, List.cons.injEq, and_true] at hg5
    obtain ⟨hg5, hg6⟩ := hg5
    simp only [hg5, hg6, T.ty_28, T.fa_52_2, T.ld_4, T.st_4, T.fa_52_3, T.st_3, T.fa_34_0, T.fa_52_5, T.ld_3, T.fa_52_6, T.ld_9, T.fa_52_7, T.fa_52_8, T.fa_52_0, T.ld_50, T.ln_50, T.bs_31_0, T.ia_50, T.fa_96_1, T.ld_31, T.ap_31_31, T.fa_96_2, T.ld_32, T.ln_32, T.ia_32, T.fa_34_1, T.ia_31, T.st_5, T.st_31, T.st_32, bx_eq, mm_eq, nc_eq, cnd_eq, bcond_true, bcond_false, pk_eq, pk_int, ex_eq, ldc_some, un_not, un_neg, mn_eq, mx_eq, bin_add, bin_sub, bin_mul, bin_lss, bin_leq, bin_gtr, bin_geq, bin_eql, bin_neq, bin_peq, bin_pne, bin_beq, bin_bne, bin_leqn, bin_lnen, bin_seq, bin_sne, bin_sge, bin_slt, rdc_cells, mapEs_some, frz_none, Nat.zero_add, Nat.add_zero, List.getElem?_toArray, List.getElem?_cons_zero, List.getElem?_cons_succ, Option.isNone_some, Option.isNone_none, Bool.not_true, Bool.not_false, ite_true, ite_false, Bool.false_eq_true, true_and, and_true, forall_const, false_implies, reduceCtorEq, Bool.true_eq_false, Nat.reduceAdd, Nat.reduceMul, Nat.reduceLT, Nat.reduceSub, Int.reduceEq, Int.reduceLT, decide_true, decide_false, List.setIfInBounds_toArray, List.set_cons_zero, List.set_cons_succ, List.size_toArray, List.length_cons, List.length_nil, frz00, one_int, one_bool, one_ptr, one_str, one_slice, one_map, one_func, one_nil, one_niliface, size_put, size_alloc, put_same, st1_put, bsc_empty, List.nil_append, List.append_nil, List.map_cons, List.map_nil, cells_ptr, cells_str, cells_int, cells_bool, cells_slice, cells_agg, cells_map, fillB_one, fillB_nil, bdc]
    rw [bcond_dec]
    have hnum := fateRun_num keep k0 (S.take j)
    have hruns := fateRun_len keep k0 (S.take j)
    rw [List.length_take] at hnum hruns
    have hruns : (fateRun keep k0 (S.take j)).1.length = j := by omega
    refine ⟨fun hjl => ?_, fun hjge => ?_⟩
    · have hjl : j < S.length := by omega
      refine ⟨fun s z' => s = [.int .i64 ((fateRun keep k0 (S.take (j + 1))).2 : Nat)] ∧ Fr u.heap.size No u z' ∧ OwB u.heap.size z' (Secs.bytes ((fateRun keep k0 (S.take (j + 1))).1 ++ List.drop (j + 1) S)) (.slice A7 (Secs.bytes S).length c7), ?_, ?_⟩
      · have hsv3 : FlagsV z3 (Secs.flags S) (.slice SA (Secs.flags S).length sc) := hsv.young hfz3
        obtain ⟨bf, of_, cf', ef, hrdf⟩ := flag_at hsv3 (i := j) (by rw [flags_len]; exact hjl)
        injection ef with e1 e2 e3
        subst e1
        have hfj : (Secs.flags S)[j]'(by rw [flags_len]; exact hjl) = S[j].sy := by simp [Secs.flags]
        rw [hfj] at hrdf
        simp only [T.ty_28, T.fa_52_2, T.ld_4, T.st_4, T.fa_52_3, T.st_3, T.fa_34_0, T.fa_52_5, T.ld_3, T.fa_52_6, T.ld_9, T.fa_52_7, T.fa_52_8, T.fa_52_0, T.ld_50, T.ln_50, T.bs_31_0, T.ia_50, T.fa_96_1, T.ld_31, T.ap_31_31, T.fa_96_2, T.ld_32, T.ln_32, T.ia_32, T.fa_34_1, T.ia_31, T.st_5, T.st_31, T.st_32, bx_eq, mm_eq, nc_eq, cnd_eq, bcond_true, bcond_false, pk_eq, pk_int, ex_eq, ldc_some, un_not, un_neg, mn_eq, mx_eq, bin_add, bin_sub, bin_mul, bin_lss, bin_leq, bin_gtr, bin_geq, bin_eql, bin_neq, bin_peq, bin_pne, bin_beq, bin_bne, bin_leqn, bin_lnen, bin_seq, bin_sne, bin_sge, bin_slt, rdc_cells, mapEs_some, frz_none, Nat.zero_add, Nat.add_zero, List.getElem?_toArray, List.getElem?_cons_zero, List.getElem?_cons_succ, Option.isNone_some, Option.isNone_none, Bool.not_true, Bool.not_false, ite_true, ite_false, Bool.false_eq_true, true_and, and_true, forall_const, false_implies, reduceCtorEq, Bool.true_eq_false, Nat.reduceAdd, Nat.reduceMul, Nat.reduceLT, Nat.reduceSub, Int.reduceEq, Int.reduceLT, decide_true, decide_false, List.setIfInBounds_toArray, List.set_cons_zero, List.set_cons_succ, List.size_toArray, List.length_cons, List.length_nil, frz00, one_int, one_bool, one_ptr, one_str, one_slice, one_map, one_func, one_nil, one_niliface, size_put, size_alloc, put_same, st1_put, bsc_empty, List.nil_append, List.append_nil, List.map_cons, List.map_nil, cells_ptr, cells_str, cells_int, cells_bool, cells_slice, cells_agg, cells_map, fillB_one, fillB_nil, bdc, Int.toNat_natCast, Nat.mul_one, hrdf, flags_len]
        refine ⟨by omega, by omega, ?_⟩
        rw [bcond_iff]
        have hstep : fateRun keep k0 (S.take (j + 1)) = fateStep keep (fateRun keep k0 (S.take j)) S[j] := fateRun_succ hjl
        have h32q : ∀ s ∈ (fateRun keep k0 (S.take j)).1, s.by_.length = 32 := fateRun_32 keep k0 fun s hs => h32 s (List.mem_of_mem_take hs)
        generalize fateRun keep k0 (S.take j) = q at hO3 hruns hstep hnum hg5 h32q ⊢
        refine ⟨fun hsy => ?_, fun hsy => ?_⟩
        · rw [hstep]
          unfold fateStep
          rw [hsy]
          refine ⟨rfl, hfz3, ?_⟩
          rw [if_pos rfl, List.append_assoc, List.singleton_append, ← List.drop_eq_getElem_cons hjl]
          exact hO3
        · have hnum2 : q.2 < 2 ^ 37 := by omega
          refine ⟨fun _ z' => Fr u.heap.size No u z' ∧ OwB u.heap.size z' (Secs.bytes (q.1 ++ [⟨if keep.getD q.2 false then S[j].by_ else List.replicate 32 0, true⟩] ++ List.drop (j + 1) S)) (.slice A7 (Secs.bytes S).length c7), ?_, ?_⟩
          · refine ⟨fun s z' => s = [.bool (!keep.getD q.2 false)] ∧ z' = z3, ?_, ?_⟩
            · have hatz3 := young_at hfz3 hatu
              have hkz := Sl.young (Sl.fr hk hfu fun b Y f hB hb => ⟨lt_at hb, hB⟩) hfz3
              obtain ⟨KA, kc, rfl, _⟩ := Sl.shape hkz
              simp only [hatz3, T.ty_28, T.fa_52_2, T.ld_4, T.st_4, T.fa_52_3, T.st_3, T.fa_34_0, T.fa_52_5, T.ld_3, T.fa_52_6, T.ld_9, T.fa_52_7, T.fa_52_8, T.fa_52_0, T.ld_50, T.ln_50, T.bs_31_0, T.ia_50, T.fa_96_1, T.ld_31, T.ap_31_31, T.fa_96_2, T.ld_32, T.ln_32, T.ia_32, T.fa_34_1, T.ia_31, T.st_5, T.st_31, T.st_32, bx_eq, mm_eq, nc_eq, cnd_eq, bcond_true, bcond_false, pk_eq, pk_int, ex_eq, ldc_some, un_not, un_neg, mn_eq, mx_eq, bin_add, bin_sub, bin_mul, bin_lss, bin_leq, bin_gtr, bin_geq, bin_eql, bin_neq, bin_peq, bin_pne, bin_beq, bin_bne, bin_leqn, bin_lnen, bin_seq, bin_sne, bin_sge, bin_slt, rdc_cells, mapEs_some, frz_none, Nat.zero_add, Nat.add_zero, List.getElem?_toArray, List.getElem?_cons_zero, List.getElem?_cons_succ, Option.isNone_some, Option.isNone_none, Bool.not_true, Bool.not_false, ite_true, ite_false, Bool.false_eq_true, true_and, and_true, forall_const, false_implies, reduceCtorEq, Bool.true_eq_false, Nat.reduceAdd, Nat.reduceMul, Nat.reduceLT, Nat.reduceSub, Int.reduceEq, Int.reduceLT, decide_true, decide_false, List.setIfInBounds_toArray, List.set_cons_zero, List.set_cons_succ, List.size_toArray, List.length_cons, List.length_nil, frz00, one_int, one_bool, one_ptr, one_str, one_slice, one_map, one_func, one_nil, one_niliface, size_put, size_alloc, put_same, st1_put, bsc_empty, List.nil_append, List.append_nil, List.map_cons, List.map_nil, cells_ptr, cells_str, cells_int, cells_bool, cells_slice, cells_agg, cells_map, fillB_one, fillB_nil, bdc]
              rw [bcond_dec]
              refine ⟨fun hge => ?_, fun hlt2 => ?_⟩
              · have hk2 : keep.getD q.2 false = false := by rw [List.getD_eq_getElem?_getD, List.getElem?_eq_none (by omega)]; rfl
                rw [hk2]; rfl
              · have hq2 : q.2 < keep.length := by omega
                obtain ⟨b5, o5, c5, he5, hrd5⟩ := flag_at hkz hq2
                injection he5 with e1 e2 e3
                subst e1
                have hkv : keep.getD q.2 false = keep[q.2] := by rw [List.getD_eq_getElem?_getD, List.getElem?_eq_getElem hq2]; rfl
                simp only [T.ty_28, T.fa_52_2, T.ld_4, T.st_4, T.fa_52_3, T.st_3, T.fa_34_0, T.fa_52_5, T.ld_3, T.fa_52_6, T.ld_9, T.fa_52_7, T.fa_52_8, T.fa_52_0, T.ld_50, T.ln_50, T.bs_31_0, T.ia_50, T.fa_96_1, T.ld_31, T.ap_31_31, T.fa_96_2, T.ld_32, T.ln_32, T.ia_32, T.fa_34_1, T.ia_31, T.st_5, T.st_31, T.st_32, bx_eq, mm_eq, nc_eq, cnd_eq, bcond_true, bcond_false, pk_eq, pk_int, ex_eq, ldc_some, un_not, un_neg, mn_eq, mx_eq, bin_add, bin_sub, bin_mul, bin_lss, bin_leq, bin_gtr, bin_geq, bin_eql, bin_neq, bin_peq, bin_pne, bin_beq, bin_bne, bin_leqn, bin_lnen, bin_seq, bin_sne, bin_sge, bin_slt, rdc_cells, mapEs_some, frz_none, Nat.zero_add, Nat.add_zero, List.getElem?_toArray, List.getElem?_cons_zero, List.getElem?_cons_succ, Option.isNone_some, Option.isNone_none, Bool.not_true, Bool.not_false, ite_true, ite_false, Bool.false_eq_true, true_and, and_true, forall_const, false_implies, reduceCtorEq, Bool.true_eq_false, Nat.reduceAdd, Nat.reduceMul, Nat.reduceLT, Nat.reduceSub, Int.reduceEq, Int.reduceLT, decide_true, decide_false, List.setIfInBounds_toArray, List.set_cons_zero, List.set_cons_succ, List.size_toArray, List.length_cons, List.length_nil, frz00, one_int, one_bool, one_ptr, one_str, one_slice, one_map, one_func, one_nil, one_niliface, size_put, size_alloc, put_same, st1_put, bsc_empty, List.nil_append, List.append_nil, List.map_cons, List.map_nil, cells_ptr, cells_str, cells_int, cells_bool, cells_slice, cells_agg, cells_map, fillB_one, fillB_nil, bdc, Int.toNat_natCast, Nat.mul_one, hrd5]
                refine ⟨by omega, by omega, ?_⟩
                rw [hkv]
            · rintro g7 z' ⟨hg7, rfl⟩
              simp only [List.map_cons, List.map_nil, List.cons.injEq, and_true] at hg7
              rw [hg7, cnd_eq, bcond_iff]
              refine ⟨fun hk2 => ?_, fun hk2 => ?_⟩
              · have hk2 : keep.getD q.2 false = false := by simpa using hk2
                have hBl : (Secs.bytes (q.1 ++ List.drop j S)).length = 32 * S.length := by
                  rw [bytes_len (fun s hs => (List.mem_append.1 hs).elim (h32q s) fun hs => h32 s (List.mem_of_mem_drop hs)), List.length_append, List.length_drop, hruns]; omega
                have hBj : Secs.bytes (q.1 ++ List.drop j S) = Secs.bytes q.1 ++ (S[j].by_ ++ Secs.bytes (List.drop (j + 1) S)) := by
                  rw [bytes_app, bytes_dropc hjl]
                have hql : (Secs.bytes q.1).length = 32 * j := by rw [bytes_len h32q, hruns]
                have hSj : S[j].by_.length = 32 := h32 _ (List.getElem_mem _)
                have hw32 : IntKind.i64.wrap ((32 : Int) * (j : Int)) = ((32 * j : Nat) : Int) := by rw [IntWalk.i64_in _ (by omega)]; omega
                have hw33 : IntKind.i64.wrap (((32 * j : Nat) : Int) + 32) = ((32 * j + 32 : Nat) : Int) := by rw [IntWalk.i64_in _ (by omega)]; omega
                simp only [bx_eq, mm_eq, nc_eq, cnd_eq, bcond_true, bcond_false, pk_eq, pk_int, ex_eq, ldc_some, un_not, un_neg, mn_eq, mx_eq, bin_add, bin_sub, bin_mul, bin_lss, bin_leq, bin_gtr, bin_geq, bin_eql, bin_neq, bin_peq, bin_pne, bin_beq, bin_bne, bin_leqn, bin_lnen, bin_seq, bin_sne, bin_sge, bin_slt, rdc_cells, mapEs_some, frz_none, Nat.zero_add, Nat.add_zero, List.getElem?_toArray, List.getElem?_cons_zero, List.getElem?_cons_succ, Option.isNone_some, Option.isNone_none, Bool.not_true, Bool.not_false, ite_true, ite_false, Bool.false_eq_true, true_and, and_true, forall_const, false_implies, reduceCtorEq, Bool.true_eq_false, Nat.reduceAdd, Nat.reduceMul, Nat.reduceLT, Nat.reduceSub, Int.reduceEq, Int.reduceLT, decide_true, decide_false, List.setIfInBounds_toArray, List.set_cons_zero, List.set_cons_succ, List.size_toArray, List.length_cons, List.length_nil, frz00, one_int, one_bool, one_ptr, one_str, one_slice, one_map, one_func, one_nil, one_niliface, size_put, size_alloc, put_same, st1_put, bsc_empty, List.nil_append, List.append_nil, List.map_cons, List.map_nil, cells_ptr, cells_str, cells_int, cells_bool, cells_slice, cells_agg, cells_map, fillB_one, fillB_nil, bdc, hw32]
                refine ⟨fun s z4 => ∃ t : Nat, s = [.int .i64 ((32 * j + t : Nat))] ∧ t ≤ 32 ∧ Fr u.heap.size No u z4 ∧ OwB u.heap.size z4 ((Secs.bytes q.1 ++ List.replicate t 0) ++ List.drop t (S[j].by_ ++ Secs.bytes (List.drop (j + 1) S))) (.slice A7 (Secs.bytes S).length c7), fun s _ => match s with | [.int _ i] => (32 * j + 32 - i).toNat | _ => 0, ⟨0, rfl, by omega, hfz3, by simpa [← hBj] using hO3⟩, ?_⟩
                rintro g8 z4 ⟨t, hg8, ht, hfz4, hO4⟩
                simp only [List.map_cons, List.map_nil, List.cons.injEq, and_true] at hg8
                simp only [hg8, hg6, T.ty_28, T.fa_52_2, T.ld_4, T.st_4, T.fa_52_3, T.st_3, T.fa_34_0, T.fa_52_5, T.ld_3, T.fa_52_6, T.ld_9, T.fa_52_7, T.fa_52_8, T.fa_52_0, T.ld_50, T.ln_50, T.bs_31_0, T.ia_50, T.fa_96_1, T.ld_31, T.ap_31_31, T.fa_96_2, T.ld_32, T.ln_32, T.ia_32, T.fa_34_1, T.ia_31, T.st_5, T.st_31, T.st_32, bx_eq, mm_eq, nc_eq, cnd_eq, bcond_true, bcond_false, pk_eq, pk_int, ex_eq, ldc_some, un_not, un_neg, mn_eq, mx_eq, bin_add, bin_sub, bin_mul, bin_lss, bin_leq, bin_gtr, bin_geq, bin_eql, bin_neq, bin_peq, bin_pne, bin_beq, bin_bne, bin_leqn, bin_lnen, bin_seq, bin_sne, bin_sge, bin_slt, rdc_cells, mapEs_some, frz_none, Nat.zero_add, Nat.add_zero, List.getElem?_toArray, List.getElem?_cons_zero, List.getElem?_cons_succ, Option.isNone_some, Option.isNone_none, Bool.not_true, Bool.not_false, ite_true, ite_false, Bool.false_eq_true, true_and, and_true, forall_const, false_implies, reduceCtorEq, Bool.true_eq_false, Nat.reduceAdd, Nat.reduceMul, Nat.reduceLT, Nat.reduceSub, Int.reduceEq, Int.reduceLT, decide_true, decide_false, List.setIfInBounds_toArray, List.set_cons_zero, List.set_cons_succ, List.size_toArray, List.length_cons, List.length_nil, frz00, one_int, one_bool, one_ptr, one_str, one_slice, one_map, one_func, one_nil, one_niliface, size_put, size_alloc, put_same, st1_put, bsc_empty, List.nil_append, List.append_nil, List.map_cons, List.map_nil, cells_ptr, cells_str, cells_int, cells_bool, cells_slice, cells_agg, cells_map, fillB_one, fillB_nil, bdc, hw32, hw33]
                rw [bcond_dec]
                have hrest : (S[j].by_ ++ Secs.bytes (List.drop (j + 1) S)).length = 32 * S.length - 32 * j := by
                  have := congrArg List.length hBj
                  rw [hBl, List.length_append, hql] at this; omega
                have hZl : ((Secs.bytes q.1 ++ List.replicate t 0) ++ List.drop t (S[j].by_ ++ Secs.bytes (List.drop (j + 1) S))).length = 32 * S.length := by
                  rw [List.length_append, List.length_append, hql, List.length_replicate, List.length_drop, hrest]; omega
                refine ⟨fun hlt4 => ?_, fun hge4 => ?_⟩
                · have hlt4 : t < 32 := by omega
                  obtain ⟨b9, o9, c9, e9, hst9⟩ := OwB.set hO4 (i := 32 * j + t) (by rw [hZl]; omega) 0
                  injection e9 with e1 e2 e3
                  subst e1
                  simp only [T.ty_28, T.fa_52_2, T.ld_4, T.st_4, T.fa_52_3, T.st_3, T.fa_34_0, T.fa_52_5, T.ld_3, T.fa_52_6, T.ld_9, T.fa_52_7, T.fa_52_8, T.fa_52_0, T.ld_50, T.ln_50, T.bs_31_0, T.ia_50, T.fa_96_1, T.ld_31, T.ap_31_31, T.fa_96_2, T.ld_32, T.ln_32, T.ia_32, T.fa_34_1, T.ia_31, T.st_5, T.st_31, T.st_32, bx_eq, mm_eq, nc_eq, cnd_eq, bcond_true, bcond_false, pk_eq, pk_int, ex_eq, ldc_some, un_not, un_neg, mn_eq, mx_eq, bin_add, bin_sub, bin_mul, bin_lss, bin_leq, bin_gtr, bin_geq, bin_eql, bin_neq, bin_peq, bin_pne, bin_beq, bin_bne, bin_leqn, bin_lnen, bin_seq, bin_sne, bin_sge, bin_slt, rdc_cells, mapEs_some, frz_none, Nat.zero_add, Nat.add_zero, List.getElem?_toArray, List.getElem?_cons_zero, List.getElem?_cons_succ, Option.isNone_some, Option.isNone_none, Bool.not_true, Bool.not_false, ite_true, ite_false, Bool.false_eq_true, true_and, and_true, forall_const, false_implies, reduceCtorEq, Bool.true_eq_false, Nat.reduceAdd, Nat.reduceMul, Nat.reduceLT, Nat.reduceSub, Int.reduceEq, Int.reduceLT, decide_true, decide_false, List.setIfInBounds_toArray, List.set_cons_zero, List.set_cons_succ, List.size_toArray, List.length_cons, List.length_nil, frz00, one_int, one_bool, one_ptr, one_str, one_slice, one_map, one_func, one_nil, one_niliface, size_put, size_alloc, put_same, st1_put, bsc_empty, List.nil_append, List.append_nil, List.map_cons, List.map_nil, cells_ptr, cells_str, cells_int, cells_bool, cells_slice, cells_agg, cells_map, fillB_one, fillB_nil, bdc, Int.toNat_natCast, Nat.mul_one]
                  refine ⟨by omega, by rw [hbl]; omega, ?_⟩
                  refine hst9 _ fun z5 hO5 hf5 => ?_
                  have hw1 : IntKind.i64.wrap (((32 * j + t : Nat) : Int) + 1) = ((32 * j + (t + 1) : Nat) : Int) := by rw [IntWalk.i64_in _ (by omega)]; omega
                  rw [hw1]
                  refine ⟨⟨t + 1, rfl, by omega, hfz4.trans hf5, ?_⟩, by omega⟩
                  have hA : (Secs.bytes q.1 ++ List.replicate t (0 : UInt8)).length = 32 * j + t := by rw [List.length_append, hql, List.length_replicate]
                  rw [List.set_append_right _ _ (by omega), hA, Nat.sub_self, List.drop_eq_getElem_cons (by rw [hrest]; omega), List.set_cons_zero] at hO5
                  rw [List.replicate_succ', ← List.append_assoc, List.append_assoc _ [0], List.singleton_append]
                  exact hO5
                · have ht32 : t = 32 := by omega
                  subst ht32
                  refine ⟨hfz4, ?_⟩
                  have hd32 : List.drop 32 (S[j].by_ ++ Secs.bytes (List.drop (j + 1) S)) = Secs.bytes (List.drop (j + 1) S) := by
                    rw [List.drop_append, List.drop_eq_nil_of_le (by omega), hSj]; simp
                  rw [hd32] at hO4
                  rw [hk2, bytes_app, bytes_app]
                  simpa [Secs.bytes] using hO4
              · have hk2 : keep.getD q.2 false = true := by simpa using hk2
                refine ⟨hfz3, ?_⟩
                rw [hk2, if_pos rfl]
                have : Secs.bytes (q.1 ++ [(⟨S[j].by_, true⟩ : Sec)] ++ List.drop (j + 1) S) = Secs.bytes (q.1 ++ List.drop j S) := by
                  rw [bytes_app, bytes_app, bytes_app, bytes_dropc hjl, List.append_assoc]; simp [Secs.bytes]
                rw [this]; exact hO3
          · rintro g6 z5 ⟨hfz5, hO5⟩
            have hw1q : IntKind.i64.wrap ((q.2 : Int) + 1) = ((q.2 + 1 : Nat) : Int) := by rw [IntWalk.i64_in _ (by omega)]; omega
            simp only [hg5, bx_eq, mm_eq, nc_eq, cnd_eq, bcond_true, bcond_false, pk_eq, pk_int, ex_eq, ldc_some, un_not, un_neg, mn_eq, mx_eq, bin_add, bin_sub, bin_mul, bin_lss, bin_leq, bin_gtr, bin_geq, bin_eql, bin_neq, bin_peq, bin_pne, bin_beq, bin_bne, bin_leqn, bin_lnen, bin_seq, bin_sne, bin_sge, bin_slt, rdc_cells, mapEs_some, frz_none, Nat.zero_add, Nat.add_zero, List.getElem?_toArray, List.getElem?_cons_zero, List.getElem?_cons_succ, Option.isNone_some, Option.isNone_none, Bool.not_true, Bool.not_false, ite_true, ite_false, Bool.false_eq_true, true_and, and_true, forall_const, false_implies, reduceCtorEq, Bool.true_eq_false, Nat.reduceAdd, Nat.reduceMul, Nat.reduceLT, Nat.reduceSub, Int.reduceEq, Int.reduceLT, decide_true, decide_false, List.setIfInBounds_toArray, List.set_cons_zero, List.set_cons_succ, List.size_toArray, List.length_cons, List.length_nil, frz00, one_int, one_bool, one_ptr, one_str, one_slice, one_map, one_func, one_nil, one_niliface, size_put, size_alloc, put_same, st1_put, bsc_empty, List.nil_append, List.append_nil, List.map_cons, List.map_nil, cells_ptr, cells_str, cells_int, cells_bool, cells_slice, cells_agg, cells_map, fillB_one, fillB_nil, bdc, hw1q]
            rw [hstep]
            unfold fateStep
            rw [hsy]
            exact ⟨rfl, hfz5, hO5⟩
      · rintro g5 z4 ⟨hg7, hfz4, hO4⟩
        simp only [List.map_cons, List.map_nil, List.cons.injEq, and_true] at hg7
        have hw1j : IntKind.i64.wrap ((j : Int) + 1) = ((j + 1 : Nat) : Int) := by rw [IntWalk.i64_in _ (by omega)]; omega
        simp only [hg7, bx_eq, mm_eq, nc_eq, cnd_eq, bcond_true, bcond_false, pk_eq, pk_int, ex_eq, ldc_some, un_not, un_neg, mn_eq, mx_eq, bin_add, bin_sub, bin_mul, bin_lss, bin_leq, bin_gtr, bin_geq, bin_eql, bin_neq, bin_peq, bin_pne, bin_beq, bin_bne, bin_leqn, bin_lnen, bin_seq, bin_sne, bin_sge, bin_slt, rdc_cells, mapEs_some, frz_none, Nat.zero_add, Nat.add_zero, List.getElem?_toArray, List.getElem?_cons_zero, List.getElem?_cons_succ, Option.isNone_some, Option.isNone_none, Bool.not_true, Bool.not_false, ite_true, ite_false, Bool.false_eq_true, true_and, and_true, forall_const, false_implies, reduceCtorEq, Bool.true_eq_false, Nat.reduceAdd, Nat.reduceMul, Nat.reduceLT, Nat.reduceSub, Int.reduceEq, Int.reduceLT, decide_true, decide_false, List.setIfInBounds_toArray, List.set_cons_zero, List.set_cons_succ, List.size_toArray, List.length_cons, List.length_nil, frz00, one_int, one_bool, one_ptr, one_str, one_slice, one_map, one_func, one_nil, one_niliface, size_put, size_alloc, put_same, st1_put, bsc_empty, List.nil_append, List.append_nil, List.map_cons, List.map_nil, cells_ptr, cells_str, cells_int, cells_bool, cells_slice, cells_agg, cells_map, fillB_one, fillB_nil, bdc, hw1j]
        exact ⟨⟨j + 1, rfl, by omega, hfz4, hO4⟩, by omega⟩
    · have hjS : j = S.length := by omega
      subst hjS
      rw [List.take_length, List.drop_length, List.append_nil] at hO3
      rw [List.take_length]
      have hbF3 := hbF1 _ hfz3
      refine ⟨fun z' => z'.heap[x]? = some (.cells #[.slice (some ⟨bF, oF, none⟩) L.length c, .int .i64 Xb.room, .bool Xb.off, .int .i64 Xb.armed, .int .i64 Xb.ops, .int .i64 Xb.last, .string Xb.a, .string Xb.b, .int .i64 Xb.n] 52 (0, 0)) ∧ rdc z'.heap[bF]? (oF + i * 3 + 2) = some (.slice SA (Secs.flags S).length sc), ⟨hx1' _ hfz3, hcell _ hbF3 2 (by decide)⟩, ?_⟩
      refine opS_of (.pointer (some ⟨x, 0, none⟩)) (fun z' h0 K hK => by simp only [T.ty_28, T.fa_52_2, T.ld_4, T.st_4, T.fa_52_3, T.st_3, T.fa_34_0, T.fa_52_5, T.ld_3, T.fa_52_6, T.ld_9, T.fa_52_7, T.fa_52_8, T.fa_52_0, T.ld_50, T.ln_50, T.bs_31_0, T.ia_50, T.fa_96_1, T.ld_31, T.ap_31_31, T.fa_96_2, T.ld_32, T.ln_32, T.ia_32, T.fa_34_1, T.ia_31, T.st_5, T.st_31, T.st_32, bx_eq, mm_eq, nc_eq, cnd_eq, bcond_true, bcond_false, pk_eq, pk_int, ex_eq, ldc_some, un_not, un_neg, mn_eq, mx_eq, bin_add, bin_sub, bin_mul, bin_lss, bin_leq, bin_gtr, bin_geq, bin_eql, bin_neq, bin_peq, bin_pne, bin_beq, bin_bne, bin_leqn, bin_lnen, bin_seq, bin_sne, bin_sge, bin_slt, rdc_cells, mapEs_some, frz_none, Nat.zero_add, Nat.add_zero, List.getElem?_toArray, List.getElem?_cons_zero, List.getElem?_cons_succ, Option.isNone_some, Option.isNone_none, Bool.not_true, Bool.not_false, ite_true, ite_false, Bool.false_eq_true, true_and, and_true, forall_const, false_implies, reduceCtorEq, Bool.true_eq_false, Nat.reduceAdd, Nat.reduceMul, Nat.reduceLT, Nat.reduceSub, Int.reduceEq, Int.reduceLT, decide_true, decide_false, List.setIfInBounds_toArray, List.set_cons_zero, List.set_cons_succ, List.size_toArray, List.length_cons, List.length_nil, frz00, one_int, one_bool, one_ptr, one_str, one_slice, one_map, one_func, one_nil, one_niliface, size_put, size_alloc, put_same, st1_put, bsc_empty, List.nil_append, List.append_nil, List.map_cons, List.map_nil, cells_ptr, cells_str, cells_int, cells_bool, cells_slice, cells_agg, cells_map, fillB_one, fillB_nil, bdc]; exact hK) ?_
      refine opS_of (.slice (some ⟨bF, oF, none⟩) L.length c) (fun z' h0 K hK => by simp only [T.ty_28, T.fa_52_2, T.ld_4, T.st_4, T.fa_52_3, T.st_3, T.fa_34_0, T.fa_52_5, T.ld_3, T.fa_52_6, T.ld_9, T.fa_52_7, T.fa_52_8, T.fa_52_0, T.ld_50, T.ln_50, T.bs_31_0, T.ia_50, T.fa_96_1, T.ld_31, T.ap_31_31, T.fa_96_2, T.ld_32, T.ln_32, T.ia_32, T.fa_34_1, T.ia_31, T.st_5, T.st_31, T.st_32, bx_eq, mm_eq, nc_eq, cnd_eq, bcond_true, bcond_false, pk_eq, pk_int, ex_eq, ldc_some, un_not, un_neg, mn_eq, mx_eq, bin_add, bin_sub, bin_mul, bin_lss, bin_leq, bin_gtr, bin_geq, bin_eql, bin_neq, bin_peq, bin_pne, bin_beq, bin_bne, bin_leqn, bin_lnen, bin_seq, bin_sne, bin_sge, bin_slt, rdc_cells, mapEs_some, frz_none, Nat.zero_add, Nat.add_zero, List.getElem?_toArray, List.getElem?_cons_zero, List.getElem?_cons_succ, Option.isNone_some, Option.isNone_none, Bool.not_true, Bool.not_false, ite_true, ite_false, Bool.false_eq_true, true_and, and_true, forall_const, false_implies, reduceCtorEq, Bool.true_eq_false, Nat.reduceAdd, Nat.reduceMul, Nat.reduceLT, Nat.reduceSub, Int.reduceEq, Int.reduceLT, decide_true, decide_false, List.setIfInBounds_toArray, List.set_cons_zero, List.set_cons_succ, List.size_toArray, List.length_cons, List.length_nil, frz00, one_int, one_bool, one_ptr, one_str, one_slice, one_map, one_func, one_nil, one_niliface, size_put, size_alloc, put_same, st1_put, bsc_empty, List.nil_append, List.append_nil, List.map_cons, List.map_nil, cells_ptr, cells_str, cells_int, cells_bool, cells_slice, cells_agg, cells_map, fillB_one, fillB_nil, bdc, h0.1]; exact hK) ?_
      refine opS_of (.pointer (some ⟨x, 0, none⟩)) (fun z' h0 K hK => by simp only [T.ty_28, T.fa_52_2, T.ld_4, T.st_4, T.fa_52_3, T.st_3, T.fa_34_0, T.fa_52_5, T.ld_3, T.fa_52_6, T.ld_9, T.fa_52_7, T.fa_52_8, T.fa_52_0, T.ld_50, T.ln_50, T.bs_31_0, T.ia_50, T.fa_96_1, T.ld_31, T.ap_31_31, T.fa_96_2, T.ld_32, T.ln_32, T.ia_32, T.fa_34_1, T.ia_31, T.st_5, T.st_31, T.st_32, bx_eq, mm_eq, nc_eq, cnd_eq, bcond_true, bcond_false, pk_eq, pk_int, ex_eq, ldc_some, un_not, un_neg, mn_eq, mx_eq, bin_add, bin_sub, bin_mul, bin_lss, bin_leq, bin_gtr, bin_geq, bin_eql, bin_neq, bin_peq, bin_pne, bin_beq, bin_bne, bin_leqn, bin_lnen, bin_seq, bin_sne, bin_sge, bin_slt, rdc_cells, mapEs_some, frz_none, Nat.zero_add, Nat.add_zero, List.getElem?_toArray, List.getElem?_cons_zero, List.getElem?_cons_succ, Option.isNone_some, Option.isNone_none, Bool.not_true, Bool.not_false, ite_true, ite_false, Bool.false_eq_true, true_and, and_true, forall_const, false_implies, reduceCtorEq, Bool.true_eq_false, Nat.reduceAdd, Nat.reduceMul, Nat.reduceLT, Nat.reduceSub, Int.reduceEq, Int.reduceLT, decide_true, decide_false, List.setIfInBounds_toArray, List.set_cons_zero, List.set_cons_succ, List.size_toArray, List.length_cons, List.length_nil, frz00, one_int, one_bool, one_ptr, one_str, one_slice, one_map, one_func, one_nil, one_niliface, size_put, size_alloc, put_same, st1_put, bsc_empty, List.nil_append, List.append_nil, List.map_cons, List.map_nil, cells_ptr, cells_str, cells_int, cells_bool, cells_slice, cells_agg, cells_map, fillB_one, fillB_nil, bdc]; exact hK) ?_
      refine opS_of (.slice (some ⟨bF, oF, none⟩) L.length c) (fun z' h0 K hK => by simp only [T.ty_28, T.fa_52_2, T.ld_4, T.st_4, T.fa_52_3, T.st_3, T.fa_34_0, T.fa_52_5, T.ld_3, T.fa_52_6, T.ld_9, T.fa_52_7, T.fa_52_8, T.fa_52_0, T.ld_50, T.ln_50, T.bs_31_0, T.ia_50, T.fa_96_1, T.ld_31, T.ap_31_31, T.fa_96_2, T.ld_32, T.ln_32, T.ia_32, T.fa_34_1, T.ia_31, T.st_5, T.st_31, T.st_32, bx_eq, mm_eq, nc_eq, cnd_eq, bcond_true, bcond_false, pk_eq, pk_int, ex_eq, ldc_some, un_not, un_neg, mn_eq, mx_eq, bin_add, bin_sub, bin_mul, bin_lss, bin_leq, bin_gtr, bin_geq, bin_eql, bin_neq, bin_peq, bin_pne, bin_beq, bin_bne, bin_leqn, bin_lnen, bin_seq, bin_sne, bin_sge, bin_slt, rdc_cells, mapEs_some, frz_none, Nat.zero_add, Nat.add_zero, List.getElem?_toArray, List.getElem?_cons_zero, List.getElem?_cons_succ, Option.isNone_some, Option.isNone_none, Bool.not_true, Bool.not_false, ite_true, ite_false, Bool.false_eq_true, true_and, and_true, forall_const, false_implies, reduceCtorEq, Bool.true_eq_false, Nat.reduceAdd, Nat.reduceMul, Nat.reduceLT, Nat.reduceSub, Int.reduceEq, Int.reduceLT, decide_true, decide_false, List.setIfInBounds_toArray, List.set_cons_zero, List.set_cons_succ, List.size_toArray, List.length_cons, List.length_nil, frz00, one_int, one_bool, one_ptr, one_str, one_slice, one_map, one_func, one_nil, one_niliface, size_put, size_alloc, put_same, st1_put, bsc_empty, List.nil_append, List.append_nil, List.map_cons, List.map_nil, cells_ptr, cells_str, cells_int, cells_bool, cells_slice, cells_agg, cells_map, fillB_one, fillB_nil, bdc, h0.1]; exact hK) ?_
      refine opS_of (.pointer (some ⟨x, 0, none⟩)) (fun z' h0 K hK => by simp only [T.ty_28, T.fa_52_2, T.ld_4, T.st_4, T.fa_52_3, T.st_3, T.fa_34_0, T.fa_52_5, T.ld_3, T.fa_52_6, T.ld_9, T.fa_52_7, T.fa_52_8, T.fa_52_0, T.ld_50, T.ln_50, T.bs_31_0, T.ia_50, T.fa_96_1, T.ld_31, T.ap_31_31, T.fa_96_2, T.ld_32, T.ln_32, T.ia_32, T.fa_34_1, T.ia_31, T.st_5, T.st_31, T.st_32, bx_eq, mm_eq, nc_eq, cnd_eq, bcond_true, bcond_false, pk_eq, pk_int, ex_eq, ldc_some, un_not, un_neg, mn_eq, mx_eq, bin_add, bin_sub, bin_mul, bin_lss, bin_leq, bin_gtr, bin_geq, bin_eql, bin_neq, bin_peq, bin_pne, bin_beq, bin_bne, bin_leqn, bin_lnen, bin_seq, bin_sne, bin_sge, bin_slt, rdc_cells, mapEs_some, frz_none, Nat.zero_add, Nat.add_zero, List.getElem?_toArray, List.getElem?_cons_zero, List.getElem?_cons_succ, Option.isNone_some, Option.isNone_none, Bool.not_true, Bool.not_false, ite_true, ite_false, Bool.false_eq_true, true_and, and_true, forall_const, false_implies, reduceCtorEq, Bool.true_eq_false, Nat.reduceAdd, Nat.reduceMul, Nat.reduceLT, Nat.reduceSub, Int.reduceEq, Int.reduceLT, decide_true, decide_false, List.setIfInBounds_toArray, List.set_cons_zero, List.set_cons_succ, List.size_toArray, List.length_cons, List.length_nil, frz00, one_int, one_bool, one_ptr, one_str, one_slice, one_map, one_func, one_nil, one_niliface, size_put, size_alloc, put_same, st1_put, bsc_empty, List.nil_append, List.append_nil, List.map_cons, List.map_nil, cells_ptr, cells_str, cells_int, cells_bool, cells_slice, cells_agg, cells_map, fillB_one, fillB_nil, bdc]; exact hK) ?_
      refine opS_of (.slice (some ⟨bF, oF, none⟩) L.length c) (fun z' h0 K hK => by simp only [T.ty_28, T.fa_52_2, T.ld_4, T.st_4, T.fa_52_3, T.st_3, T.fa_34_0, T.fa_52_5, T.ld_3, T.fa_52_6, T.ld_9, T.fa_52_7, T.fa_52_8, T.fa_52_0, T.ld_50, T.ln_50, T.bs_31_0, T.ia_50, T.fa_96_1, T.ld_31, T.ap_31_31, T.fa_96_2, T.ld_32, T.ln_32, T.ia_32, T.fa_34_1, T.ia_31, T.st_5, T.st_31, T.st_32, bx_eq, mm_eq, nc_eq, cnd_eq, bcond_true, bcond_false, pk_eq, pk_int, ex_eq, ldc_some, un_not, un_neg, mn_eq, mx_eq, bin_add, bin_sub, bin_mul, bin_lss, bin_leq, bin_gtr, bin_geq, bin_eql, bin_neq, bin_peq, bin_pne, bin_beq, bin_bne, bin_leqn, bin_lnen, bin_seq, bin_sne, bin_sge, bin_slt, rdc_cells, mapEs_some, frz_none, Nat.zero_add, Nat.add_zero, List.getElem?_toArray, List.getElem?_cons_zero, List.getElem?_cons_succ, Option.isNone_some, Option.isNone_none, Bool.not_true, Bool.not_false, ite_true, ite_false, Bool.false_eq_true, true_and, and_true, forall_const, false_implies, reduceCtorEq, Bool.true_eq_false, Nat.reduceAdd, Nat.reduceMul, Nat.reduceLT, Nat.reduceSub, Int.reduceEq, Int.reduceLT, decide_true, decide_false, List.setIfInBounds_toArray, List.set_cons_zero, List.set_cons_succ, List.size_toArray, List.length_cons, List.length_nil, frz00, one_int, one_bool, one_ptr, one_str, one_slice, one_map, one_func, one_nil, one_niliface, size_put, size_alloc, put_same, st1_put, bsc_empty, List.nil_append, List.append_nil, List.map_cons, List.map_nil, cells_ptr, cells_str, cells_int, cells_bool, cells_slice, cells_agg, cells_map, fillB_one, fillB_nil, bdc, h0.1]; exact hK) ?_
      have hia : ∀ (z' : World) (K : Value → World → Prop), K (.pointer (some ⟨bF, oF + i * 3, none⟩)) z' → ia Tryd.prog 50 (.slice (some ⟨bF, oF, none⟩) L.length c) (.int .i64 i) z' K := fun z' K hK => by
        simp only [T.ty_28, T.fa_52_2, T.ld_4, T.st_4, T.fa_52_3, T.st_3, T.fa_34_0, T.fa_52_5, T.ld_3, T.fa_52_6, T.ld_9, T.fa_52_7, T.fa_52_8, T.fa_52_0, T.ld_50, T.ln_50, T.bs_31_0, T.ia_50, T.fa_96_1, T.ld_31, T.ap_31_31, T.fa_96_2, T.ld_32, T.ln_32, T.ia_32, T.fa_34_1, T.ia_31, T.st_5, T.st_31, T.st_32, Int.toNat_natCast]; exact ⟨by omega, by omega, hK⟩
      refine opS_of (.pointer (some ⟨bF, oF + i * 3, none⟩)) (fun z' h0 K hK => hia z' K hK) ?_
      refine opS_of (.pointer (some ⟨bF, oF + i * 3 + 2, none⟩)) (fun z' h0 K hK => by simp only [T.ty_28, T.fa_52_2, T.ld_4, T.st_4, T.fa_52_3, T.st_3, T.fa_34_0, T.fa_52_5, T.ld_3, T.fa_52_6, T.ld_9, T.fa_52_7, T.fa_52_8, T.fa_52_0, T.ld_50, T.ln_50, T.bs_31_0, T.ia_50, T.fa_96_1, T.ld_31, T.ap_31_31, T.fa_96_2, T.ld_32, T.ln_32, T.ia_32, T.fa_34_1, T.ia_31, T.st_5, T.st_31, T.st_32, bx_eq, mm_eq, nc_eq, cnd_eq, bcond_true, bcond_false, pk_eq, pk_int, ex_eq, ldc_some, un_not, un_neg, mn_eq, mx_eq, bin_add, bin_sub, bin_mul, bin_lss, bin_leq, bin_gtr, bin_geq, bin_eql, bin_neq, bin_peq, bin_pne, bin_beq, bin_bne, bin_leqn, bin_lnen, bin_seq, bin_sne, bin_sge, bin_slt, rdc_cells, mapEs_some, frz_none, Nat.zero_add, Nat.add_zero, List.getElem?_toArray, List.getElem?_cons_zero, List.getElem?_cons_succ, Option.isNone_some, Option.isNone_none, Bool.not_true, Bool.not_false, ite_true, ite_false, Bool.false_eq_true, true_and, and_true, forall_const, false_implies, reduceCtorEq, Bool.true_eq_false, Nat.reduceAdd, Nat.reduceMul, Nat.reduceLT, Nat.reduceSub, Int.reduceEq, Int.reduceLT, decide_true, decide_false, List.setIfInBounds_toArray, List.set_cons_zero, List.set_cons_succ, List.size_toArray, List.length_cons, List.length_nil, frz00, one_int, one_bool, one_ptr, one_str, one_slice, one_map, one_func, one_nil, one_niliface, size_put, size_alloc, put_same, st1_put, bsc_empty, List.nil_append, List.append_nil, List.map_cons, List.map_nil, cells_ptr, cells_str, cells_int, cells_bool, cells_slice, cells_agg, cells_map, fillB_one, fillB_nil, bdc]; exact hK) ?_
      refine opS_of (.slice SA (Secs.flags S).length sc) (fun z' h0 K hK => by simp only [T.ty_28, T.fa_52_2, T.ld_4, T.st_4, T.fa_52_3, T.st_3, T.fa_34_0, T.fa_52_5, T.ld_3, T.fa_52_6, T.ld_9, T.fa_52_7, T.fa_52_8, T.fa_52_0, T.ld_50, T.ln_50, T.bs_31_0, T.ia_50, T.fa_96_1, T.ld_31, T.ap_31_31, T.fa_96_2, T.ld_32, T.ln_32, T.ia_32, T.fa_34_1, T.ia_31, T.st_5, T.st_31, T.st_32, bx_eq, mm_eq, nc_eq, cnd_eq, bcond_true, bcond_false, pk_eq, pk_int, ex_eq, ldc_some, un_not, un_neg, mn_eq, mx_eq, bin_add, bin_sub, bin_mul, bin_lss, bin_leq, bin_gtr, bin_geq, bin_eql, bin_neq, bin_peq, bin_pne, bin_beq, bin_bne, bin_leqn, bin_lnen, bin_seq, bin_sne, bin_sge, bin_slt, rdc_cells, mapEs_some, frz_none, Nat.zero_add, Nat.add_zero, List.getElem?_toArray, List.getElem?_cons_zero, List.getElem?_cons_succ, Option.isNone_some, Option.isNone_none, Bool.not_true, Bool.not_false, ite_true, ite_false, Bool.false_eq_true, true_and, and_true, forall_const, false_implies, reduceCtorEq, Bool.true_eq_false, Nat.reduceAdd, Nat.reduceMul, Nat.reduceLT, Nat.reduceSub, Int.reduceEq, Int.reduceLT, decide_true, decide_false, List.setIfInBounds_toArray, List.set_cons_zero, List.set_cons_succ, List.size_toArray, List.length_cons, List.length_nil, frz00, one_int, one_bool, one_ptr, one_str, one_slice, one_map, one_func, one_nil, one_niliface, size_put, size_alloc, put_same, st1_put, bsc_empty, List.nil_append, List.append_nil, List.map_cons, List.map_nil, cells_ptr, cells_str, cells_int, cells_bool, cells_slice, cells_agg, cells_map, fillB_one, fillB_nil, bdc, h0.2]; exact hK) ?_
      refine opS_of (.int .i64 (S.length : Nat)) (fun z' h0 K hK => by simp only [T.ty_28, T.fa_52_2, T.ld_4, T.st_4, T.fa_52_3, T.st_3, T.fa_34_0, T.fa_52_5, T.ld_3, T.fa_52_6, T.ld_9, T.fa_52_7, T.fa_52_8, T.fa_52_0, T.ld_50, T.ln_50, T.bs_31_0, T.ia_50, T.fa_96_1, T.ld_31, T.ap_31_31, T.fa_96_2, T.ld_32, T.ln_32, T.ia_32, T.fa_34_1, T.ia_31, T.st_5, T.st_31, T.st_32, bx_eq, mm_eq, nc_eq, cnd_eq, bcond_true, bcond_false, pk_eq, pk_int, ex_eq, ldc_some, un_not, un_neg, mn_eq, mx_eq, bin_add, bin_sub, bin_mul, bin_lss, bin_leq, bin_gtr, bin_geq, bin_eql, bin_neq, bin_peq, bin_pne, bin_beq, bin_bne, bin_leqn, bin_lnen, bin_seq, bin_sne, bin_sge, bin_slt, rdc_cells, mapEs_some, frz_none, Nat.zero_add, Nat.add_zero, List.getElem?_toArray, List.getElem?_cons_zero, List.getElem?_cons_succ, Option.isNone_some, Option.isNone_none, Bool.not_true, Bool.not_false, ite_true, ite_false, Bool.false_eq_true, true_and, and_true, forall_const, false_implies, reduceCtorEq, Bool.true_eq_false, Nat.reduceAdd, Nat.reduceMul, Nat.reduceLT, Nat.reduceSub, Int.reduceEq, Int.reduceLT, decide_true, decide_false, List.setIfInBounds_toArray, List.set_cons_zero, List.set_cons_succ, List.size_toArray, List.length_cons, List.length_nil, frz00, one_int, one_bool, one_ptr, one_str, one_slice, one_map, one_func, one_nil, one_niliface, size_put, size_alloc, put_same, st1_put, bsc_empty, List.nil_append, List.append_nil, List.map_cons, List.map_nil, cells_ptr, cells_str, cells_int, cells_bool, cells_slice, cells_agg, cells_map, fillB_one, fillB_nil, bdc, flags_len]; exact hK) ?_
      refine ref_flags (n := S.length) (t := true) hok fun v4 z4 ho4 hf4 => ?_
      have hf4 : Fr z3.heap.size No z3 z4 := hf4
      have hfz4 : Fr u.heap.size No u z4 := hfz3.trans (hf4.no hfz3.1)
      obtain ⟨A4, c4, rfl, _⟩ := ho4.sl.shape
      refine ⟨⟨hx1' _ hfz4, hcell _ (hbF1 _ hfz4) 2 (by decide)⟩, ?_⟩
      refine opS_of (.pointer (some ⟨bF, oF + i * 3, none⟩)) (fun z' h0 K hK => hia z' K hK) ?_
      refine opS_of (.pointer (some ⟨bF, oF + i * 3 + 1, none⟩)) (fun z' h0 K hK => by simp only [T.ty_28, T.fa_52_2, T.ld_4, T.st_4, T.fa_52_3, T.st_3, T.fa_34_0, T.fa_52_5, T.ld_3, T.fa_52_6, T.ld_9, T.fa_52_7, T.fa_52_8, T.fa_52_0, T.ld_50, T.ln_50, T.bs_31_0, T.ia_50, T.fa_96_1, T.ld_31, T.ap_31_31, T.fa_96_2, T.ld_32, T.ln_32, T.ia_32, T.fa_34_1, T.ia_31, T.st_5, T.st_31, T.st_32, bx_eq, mm_eq, nc_eq, cnd_eq, bcond_true, bcond_false, pk_eq, pk_int, ex_eq, ldc_some, un_not, un_neg, mn_eq, mx_eq, bin_add, bin_sub, bin_mul, bin_lss, bin_leq, bin_gtr, bin_geq, bin_eql, bin_neq, bin_peq, bin_pne, bin_beq, bin_bne, bin_leqn, bin_lnen, bin_seq, bin_sne, bin_sge, bin_slt, rdc_cells, mapEs_some, frz_none, Nat.zero_add, Nat.add_zero, List.getElem?_toArray, List.getElem?_cons_zero, List.getElem?_cons_succ, Option.isNone_some, Option.isNone_none, Bool.not_true, Bool.not_false, ite_true, ite_false, Bool.false_eq_true, true_and, and_true, forall_const, false_implies, reduceCtorEq, Bool.true_eq_false, Nat.reduceAdd, Nat.reduceMul, Nat.reduceLT, Nat.reduceSub, Int.reduceEq, Int.reduceLT, decide_true, decide_false, List.setIfInBounds_toArray, List.set_cons_zero, List.set_cons_succ, List.size_toArray, List.length_cons, List.length_nil, frz00, one_int, one_bool, one_ptr, one_str, one_slice, one_map, one_func, one_nil, one_niliface, size_put, size_alloc, put_same, st1_put, bsc_empty, List.nil_append, List.append_nil, List.map_cons, List.map_nil, cells_ptr, cells_str, cells_int, cells_bool, cells_slice, cells_agg, cells_map, fillB_one, fillB_nil, bdc]; exact hK) ?_
      have hr3z4 : Sl0 (fun b => N ≤ b) 96 3 z4 (.slice (some ⟨bF, oF, none⟩) L.length c) L.length (rows.flatMap id) := by
        rw [hmlen] at r3
        exact r3.fr hfz4 fun b Y _ hb => ⟨lt_at hb, no_not⟩
      obtain ⟨b5, o5, c5, e5, _, hset5⟩ := Sl0.setc hr3z4 (q := i * 3 + 1) (by omega) (.slice A7 (Secs.bytes S).length c7) rfl
      injection e5 with e5 _ _; injection e5 with e5; injection e5 with e5 e6
      subst e5; subst e6
      simp only [T.ty_28, T.fa_52_2, T.ld_4, T.st_4, T.fa_52_3, T.st_3, T.fa_34_0, T.fa_52_5, T.ld_3, T.fa_52_6, T.ld_9, T.fa_52_7, T.fa_52_8, T.fa_52_0, T.ld_50, T.ln_50, T.bs_31_0, T.ia_50, T.fa_96_1, T.ld_31, T.ap_31_31, T.fa_96_2, T.ld_32, T.ln_32, T.ia_32, T.fa_34_1, T.ia_31, T.st_5, T.st_31, T.st_32]
      rw [Nat.add_assoc]
      refine hset5 _ fun z5 hr5 hf5 hs5 => ?_
      have hxF : ¬ x = bF := fun e => by rw [e, hbF] at hublk; injection hublk with h; injection h with _ h; cases h
      have hux5 : z5.heap[x]? = some (.cells #[.slice (some ⟨bF, oF, none⟩) L.length c, .int .i64 Xb.room, .bool Xb.off, .int .i64 Xb.armed, .int .i64 Xb.ops, .int .i64 Xb.last, .string Xb.a, .string Xb.b, .int .i64 Xb.n] 52 (0, 0)) := hf5.at (hx1' _ hfz4) (lt_at (hx1' _ hfz4)) hxF
      have hrows5 := rows_set r2 hir (k := 1) (by decide) (.slice A7 (Secs.bytes S).length c7)
      rw [hrows5] at hr5
      have r2' : ∀ r ∈ rows.set i (rows[i].set 1 (.slice A7 (Secs.bytes S).length c7)), r.length = 3 := fun r hr => by
        rcases List.mem_or_eq_of_mem_set hr with hr | rfl
        · exact r2 r hr
        · rw [List.length_set]; exact r2 _ (List.getElem_mem _)
      have hir' : i < (rows.set i (rows[i].set 1 (.slice A7 (Secs.bytes S).length c7))).length := by rw [List.length_set]; exact hir
      have hrow5 : (rows.set i (rows[i].set 1 (.slice A7 (Secs.bytes S).length c7)))[i] = [.string (L[i]).1, .slice A7 (Secs.bytes S).length c7, .slice SA (Secs.flags S).length sc] := by
        rw [List.getElem_set_self, hrow]; rfl
      obtain ⟨bF', oF', cF', XF', eF', _, hbF', hsF', hXF'⟩ := hr5.at (i := i) (by omega)
      injection eF' with eF' _ _; injection eF' with eF'; injection eF' with e1 e2
      subst e1; subst e2
      have hc5 : rdc z5.heap[bF]? (oF + i * 3 + 2) = some (.slice SA (Secs.flags S).length sc) := by
        rw [hbF', rdc_cells, Nat.add_assoc, hXF' _ (by omega), flat_get id r2' hir' (by decide), id, hrow5]; rfl
      refine ⟨⟨hux5, hc5⟩, ?_⟩
      refine opS_of (.pointer (some ⟨bF, oF + i * 3, none⟩)) (fun z' h0 K hK => hia z' K hK) ?_
      refine opS_of (.pointer (some ⟨bF, oF + i * 3 + 2, none⟩)) (fun z' h0 K hK => by simp only [T.ty_28, T.fa_52_2, T.ld_4, T.st_4, T.fa_52_3, T.st_3, T.fa_34_0, T.fa_52_5, T.ld_3, T.fa_52_6, T.ld_9, T.fa_52_7, T.fa_52_8, T.fa_52_0, T.ld_50, T.ln_50, T.bs_31_0, T.ia_50, T.fa_96_1, T.ld_31, T.ap_31_31, T.fa_96_2, T.ld_32, T.ln_32, T.ia_32, T.fa_34_1, T.ia_31, T.st_5, T.st_31, T.st_32, bx_eq, mm_eq, nc_eq, cnd_eq, bcond_true, bcond_false, pk_eq, pk_int, ex_eq, ldc_some, un_not, un_neg, mn_eq, mx_eq, bin_add, bin_sub, bin_mul, bin_lss, bin_leq, bin_gtr, bin_geq, bin_eql, bin_neq, bin_peq, bin_pne, bin_beq, bin_bne, bin_leqn, bin_lnen, bin_seq, bin_sne, bin_sge, bin_slt, rdc_cells, mapEs_some, frz_none, Nat.zero_add, Nat.add_zero, List.getElem?_toArray, List.getElem?_cons_zero, List.getElem?_cons_succ, Option.isNone_some, Option.isNone_none, Bool.not_true, Bool.not_false, ite_true, ite_false, Bool.false_eq_true, true_and, and_true, forall_const, false_implies, reduceCtorEq, Bool.true_eq_false, Nat.reduceAdd, Nat.reduceMul, Nat.reduceLT, Nat.reduceSub, Int.reduceEq, Int.reduceLT, decide_true, decide_false, List.setIfInBounds_toArray, List.set_cons_zero, List.set_cons_succ, List.size_toArray, List.length_cons, List.length_nil, frz00, one_int, one_bool, one_ptr, one_str, one_slice, one_map, one_func, one_nil, one_niliface, size_put, size_alloc, put_same, st1_put, bsc_empty, List.nil_append, List.append_nil, List.map_cons, List.map_nil, cells_ptr, cells_str, cells_int, cells_bool, cells_slice, cells_agg, cells_map, fillB_one, fillB_nil, bdc]; exact hK) ?_
      obtain ⟨b6, o6, c6, e6, _, hset6⟩ := Sl0.setc hr5 (q := i * 3 + 2) (by omega) (.slice A4 S.length c4) rfl
      injection e6 with e6 _ _; injection e6 with e6; injection e6 with e6 e7
      subst e6; subst e7
      simp only [T.ty_28, T.fa_52_2, T.ld_4, T.st_4, T.fa_52_3, T.st_3, T.fa_34_0, T.fa_52_5, T.ld_3, T.fa_52_6, T.ld_9, T.fa_52_7, T.fa_52_8, T.fa_52_0, T.ld_50, T.ln_50, T.bs_31_0, T.ia_50, T.fa_96_1, T.ld_31, T.ap_31_31, T.fa_96_2, T.ld_32, T.ln_32, T.ia_32, T.fa_34_1, T.ia_31, T.st_5, T.st_31, T.st_32]
      rw [Nat.add_assoc]
      refine hset6 _ fun z6 hr6 hf6 hs6 => ?_
      have hux6 := hf6.at hux5 (lt_at hux5) hxF
      rw [rows_set r2' hir' (k := 2) (by decide), hrow5] at hr6
      simp only [List.set_cons_succ, List.set_cons_zero, List.set_set] at hr6
      have hw1i : IntKind.i64.wrap ((i : Int) + 1) = ((i + 1 : Nat) : Int) := by rw [IntWalk.i64_in _ (by omega)]; omega
      simp only [bx_eq, mm_eq, nc_eq, cnd_eq, bcond_true, bcond_false, pk_eq, pk_int, ex_eq, ldc_some, un_not, un_neg, mn_eq, mx_eq, bin_add, bin_sub, bin_mul, bin_lss, bin_leq, bin_gtr, bin_geq, bin_eql, bin_neq, bin_peq, bin_pne, bin_beq, bin_bne, bin_leqn, bin_lnen, bin_seq, bin_sne, bin_sge, bin_slt, rdc_cells, mapEs_some, frz_none, Nat.zero_add, Nat.add_zero, List.getElem?_toArray, List.getElem?_cons_zero, List.getElem?_cons_succ, Option.isNone_some, Option.isNone_none, Bool.not_true, Bool.not_false, ite_true, ite_false, Bool.false_eq_true, true_and, and_true, forall_const, false_implies, reduceCtorEq, Bool.true_eq_false, Nat.reduceAdd, Nat.reduceMul, Nat.reduceLT, Nat.reduceSub, Int.reduceEq, Int.reduceLT, decide_true, decide_false, List.setIfInBounds_toArray, List.set_cons_zero, List.set_cons_succ, List.size_toArray, List.length_cons, List.length_nil, frz00, one_int, one_bool, one_ptr, one_str, one_slice, one_map, one_func, one_nil, one_niliface, size_put, size_alloc, put_same, st1_put, bsc_empty, List.nil_append, List.append_nil, List.map_cons, List.map_nil, cells_ptr, cells_str, cells_int, cells_bool, cells_slice, cells_agg, cells_map, fillB_one, fillB_nil, bdc, hw1i]
      have hfF : Fr z4.heap.size (fun b => b = bF) z4 z6 := hf5.trans (by rw [hs5] at hf6; exact hf6)
      have hFt : ∀ (Y : Array Value) (e : TypeId) (f : Nat × Nat) (b : Nat), e ≠ 96 → z4.heap[b]? = some (.cells Y e f) → ¬ b = bF := fun Y e f b he hb h => by
        subst h
        rw [hbF1 _ hfz4, hbF] at hb; injection hb with hb; injection hb with _ hb; exact he hb.symm
      have hO4 : OwB u.heap.size z4 (Secs.bytes (fateRun keep k0 S).1) (.slice A7 (Secs.bytes S).length c7) := hO3.young hf4
      have hbytes6 : BytesV z6 (Secs.bytes (fateRun keep k0 S).1) (.slice A7 (Secs.bytes S).length c7) := Sl.fr hO4.v hfF fun b Y f _ hb => ⟨lt_at hb, hFt _ _ _ _ (by decide) hb⟩
      have hflags6 : FlagsV z6 (Secs.flags (fateRun keep k0 S).1) (.slice A4 S.length c4) := by
        rw [fateRun_flags]
        unfold FlagsV
        rw [List.length_replicate]
        exact Sl.fr (ho4.sl.mono fun _ _ _ => trivial : Sl (fun _ => True) _ _ _ _ _ _) hfF fun b Y f _ hb => ⟨lt_at hb, hFt _ _ _ _ (by decide) hb⟩
      have hnew : FileC z6 ((L[i]).1, (fateRun keep k0 S).1) [.string (L[i]).1, .slice A7 (Secs.bytes S).length c7, .slice A4 S.length c4] := ⟨_, _, rfl, hbytes6, hflags6, fateRun_32 keep k0 h32⟩
      have hfuz6 : Fr u.heap.size (fun b => b = bF) u z6 := (hfz4.no (Nat.le_refl _)).then hfF hfz4.1 fun _ _ h => h
      have hsucc : (fateFs keep (L.take (i + 1))).1 = (fateFs keep (L.take i)).1 ++ [((L[i]).1, (fateRun keep k0 S).1)] := by rw [fateFs_succ hlt]; simp only [fateFsStep, hS, hk0e]
      have hsucc2 : (fateFs keep (L.take (i + 1))).2 = (fateRun keep k0 S).2 := by rw [fateFs_succ hlt]; simp only [fateFsStep, hS, hk0e]
      have hFS : RkS N w x bF ∨ w.heap.size ≤ bF := by
        rcases Nat.lt_or_ge bF w.heap.size with h1 | h1
        · left
          by_cases hq : RkS N w x bF
          · exact hq
          · exact .inr ⟨hNF, XF, by rw [← hfu.2.1 bF h1 hq]; exact hbF⟩
        · exact .inr h1
      refine ⟨⟨i + 1, by rw [hsucc2], by omega, ?_, ?_, ?_, ?_⟩, by omega⟩
      · refine hfu.trans (hfuz6.mono hfu.1 fun b hb e => ?_)
        subst e
        exact hFS.elim id fun h => by omega
      · exact hfuz6.at hatu (lt_at hatu) fun e => by rw [e, hbF] at hatu; injection hatu with h; injection h with _ h; cases h
      · rw [hux6, ← hblk]
      · refine ⟨rows.set i [.string (L[i]).1, .slice A7 (Secs.bytes S).length c7, .slice A4 S.length c4], ?_, ?_, ?_⟩
        · have r1' : F2 (fun cs p => FileC z6 p cs) rows ((fateFs keep (L.take i)).1 ++ List.drop i L) := r1.mono fun cs p _ _ hq => hq.fr hfuz6 fun b Y e f he hb => ⟨lt_at hb, fun h => by
            subst h
            rw [hbF] at hb; injection hb with hb; injection hb with _ hb
            subst hb
            rcases he with he | he <;> cases he⟩
          have := F2.set r1' hnew i
          rw [mid_set hfl hlt] at this
          rw [hsucc]; exact this
        · intro r hr
          rcases List.mem_or_eq_of_mem_set hr with hr | rfl
          · exact r2 r hr
          · rfl
        · have hml2 : ((fateFs keep (L.take (i + 1))).1 ++ List.drop (i + 1) L).length = L.length := by
            rw [hsucc, List.length_append, List.length_append, hfl, List.length_drop, List.length_singleton]; omega
          rw [hml2]
          exact hr6
  · have : i = L.length := by omega
    subst this
    rw [List.take_length, List.drop_length, List.append_nil] at hufs
    refine hR u ⟨_, ⟨?_, hufs, h.nx⟩⟩ hfu
    rw [hublk]; rfl
end Go.Proofs.YtppefblkmgihoaaDoor
