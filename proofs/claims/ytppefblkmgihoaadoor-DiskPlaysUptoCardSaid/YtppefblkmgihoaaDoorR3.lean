/- The reference of layer 9: drop, put. -/
import Derived.Test.YtppefblkmgihoaaDoorR2
set_option linter.unusedVariables false
set_option linter.unusedSimpArgs false
set_option maxRecDepth 10000
namespace Go.Proofs.YtppefblkmgihoaaDoor
open Go.Sh

/-- A list of files that is one's own. -/
def FilesO (N : Nat) (w : World) (l : Files) (v : Value) : Prop := ∃ rows : List (List Value), F2 (fun cs p => FileC w p cs) rows l ∧ (∀ r ∈ rows, r.length = 3) ∧ Ow N 96 3 w v l.length (rows.flatMap id)
theorem FilesO.nil (N : Nat) (w : World) : FilesO N w [] (.slice none 0 0) := ⟨[], .nil, by simp, Ow.nil ..⟩
theorem FilesO.v {N : Nat} {w : World} {l : Files} {v : Value} (h : FilesO N w l v) : FilesV (fun b => N ≤ b) w l v := by
  obtain ⟨rows, h1, h2, h3⟩ := h; exact ⟨rows, h1, h2, h3.sl0⟩
theorem FilesV.weak {B : Nat → Prop} {w : World} {l : Files} {v : Value} (h : FilesV B w l v) : FilesV (fun _ => True) w l v := by
  obtain ⟨rows, h1, h2, h3⟩ := h; exact ⟨rows, h1, h2, h3.mono fun _ _ _ => trivial⟩
theorem FilesV.mono {B B' : Nat → Prop} {w : World} {l : Files} {v : Value} (h : FilesV B w l v) (hB : ∀ b, B b → B' b) : FilesV B' w l v := by
  obtain ⟨rows, h1, h2, h3⟩ := h; exact ⟨rows, h1, h2, h3.mono fun b hb _ => hB b hb⟩
theorem FileC.young {w w' : World} {p : ByteArray × List Sec} {cs : List Value} (h : FileC w p cs) (hf : Fr w.heap.size No w w') : FileC w' p cs := h.fr hf fun b X e f _ hb => ⟨lt_at hb, no_not⟩
theorem FilesO.young {N : Nat} {w w' : World} {l : Files} {v : Value} (h : FilesO N w l v) (hf : Fr w.heap.size No w w') : FilesO N w' l v := by
  obtain ⟨rows, h1, h2, h3⟩ := h
  exact ⟨rows, h1.mono fun cs p _ _ hc => hc.young hf, h2, h3.fr hf fun _ _ _ _ => no_not⟩
theorem FilesO.shape {N : Nat} {w : World} {l : Files} {v : Value} (h : FilesO N w l v) : ∃ A c, v = .slice A l.length c := h.v.shape
theorem FileC.one {w : World} {p : ByteArray × List Sec} {cs : List Value} (h : FileC w p cs) : ∀ u ∈ cs, u.oneCell' = true := by
  obtain ⟨bv, sv, rfl, h1, h2, _⟩ := h
  intro u hu
  exact row_one h1 h2 u (by simpa using hu)
theorem FileC.len {w : World} {p : ByteArray × List Sec} {cs : List Value} (h : FileC w p cs) : cs.length = 3 := by
  obtain ⟨bv, sv, rfl, _⟩ := h; rfl
/-- l = append(l, f). -/
theorem FilesO.snoc {N : Nat} {w : World} {l : Files} {v : Value} {p : ByteArray × List Sec} {cs : List Value} (h : FilesO N w l v) (hc : FileC w p cs) (hN : N ≤ w.heap.size) (hl : l.length < 2 ^ 37) {K : Value → World → Prop}
    (hK : ∀ v' w', FilesO N w' (l ++ [p]) v' → Fr N No w w' → Fr w.heap.size (fun b => ∃ o n c, v = .slice (some ⟨b, o, none⟩) n c) w w' → K v' w') : bsc 1 3 #[.string ⟨#[]⟩, .slice none 0 0, .slice none 0 0] #[(0, .agg cs.toArray)] fun c1 => ap Tryd.prog 50 50 v (.slice (some ⟨w.heap.size, 0, none⟩) 1 1) (w.alloc (.cells c1 96)) K := by
  obtain ⟨A, c, rfl⟩ := h.shape
  have hlen := hc.len
  simp only [T.fa_52_0, T.ld_50, T.ln_50, T.ia_50, T.ld_96, T.al_96, T.st_96, T.fa_96_0, T.ld_9, T.bs_50_1, T.ap_50_50, T.st_50]
  rw [bsc_one (v := .agg cs.toArray) (sz := 3) (z := #[.string ⟨#[]⟩, .slice none 0 0, .slice none 0 0]) (by rw [cells_agg]; simpa using hlen) rfl]
  simp only [cells_agg]
  have hf : Fr w.heap.size No w (w.alloc (.cells cs.toArray 96 (0, 0))) := Fr.refl.alloc (Nat.le_refl _)
  have hs : Sl (fun _ => True) 96 3 (w.alloc (.cells cs.toArray 96 (0, 0))) (.slice (some ⟨w.heap.size, 0, none⟩) 1 1) 1 cs := ⟨_, 1, rfl, Nat.le_refl _, by omega, .inr ⟨w.heap.size, 0, cs.toArray, (0, 0), rfl, trivial, alloc_at rfl, by simp [hlen], fun k hk => by simp⟩⟩
  rw [src_sl hs]
  obtain ⟨rows, h1, h2, h3⟩ := h.young hf
  refine ap_own h3 rfl (by decide) (by omega) hc.one (by rw [size_alloc]; omega) (by omega) (by omega) fun A' c' w' ho hof => ?_
  have hfr : Fr w.heap.size No w w' ∨ True := .inr trivial
  have hcw : ∀ {q : ByteArray × List Sec} {r : List Value}, FileC (w.alloc (.cells cs.toArray 96 (0, 0))) q r → FileC w' q r := fun hq => hq.fr hof fun b X e f he hb => ⟨lt_at hb, fun hx => by
    obtain ⟨_, ⟨Y, hY⟩, _⟩ := hx
    rw [hb] at hY; injection hY with hY; injection hY with _ hY
    subst hY
    rcases he with he | he <;> cases he⟩
  refine hK _ w' ⟨rows ++ [cs], (h1.mono fun _ _ _ _ hq => hcw hq).append (.cons (hcw (hc.young hf)) .nil), ?_, ?_⟩ ((hf.no hN).trans (hof.fr (by rw [size_alloc]; omega))) ((hf.no (Nat.le_refl _)).then hof (by rw [size_alloc]; omega) fun b _ hb => by obtain ⟨_, _, o, e⟩ := hb; exact ⟨o, _, c, by rw [e]⟩)
  · intro r hr
    rcases List.mem_append.1 hr with hr | hr
    · exact h2 r hr
    · simp only [List.mem_singleton] at hr; rw [hr]; exact hlen
  · rw [List.length_append, List.length_singleton, List.flatMap_append]
    simpa using ho

def Files.drop (l : Files) (a : ByteArray) : Files := l.filter fun p => decide (p.1 ≠ a)
theorem filter_len {l : Files} {f : ByteArray × List Sec → Bool} : (l.filter f).length ≤ l.length := List.length_filter_le _ _
theorem ref_drop {N : Nat} {w : World} {x : Nat} {X : Rk} {fv : Value} {a : ByteArray} (h : RkAt N w x X fv) (hl : small X.fs.length) {R : Value → World → Prop}
    (hR : ∀ w' fv', RkAt N w' x { X with fs := X.fs.drop a } fv' → FilesV (fun b => w.heap.size ≤ b) w' (X.fs.drop a) fv' → Fr w.heap.size (fun b => b = x) w w' → R (.tuple #[]) w') : cl Tryd.prog 62 #[ptr x, .string a] w R := by
  have hblk := h.blk
  unfold Rk.cells at hblk
  obtain ⟨A, c, rfl⟩ := h.fs.shape
  have hl : X.fs.length < 2 ^ 36 := hl
  refine C.r09_drop ?_
  unfold F.r09_drop
  simp only [T.fa_52_0, T.ld_50, T.ln_50, T.ia_50, T.ld_96, T.al_96, T.st_96, T.fa_96_0, T.ld_9, T.bs_50_1, T.ap_50_50, T.st_50, bx_eq, mm_eq, nc_eq, cnd_eq, bcond_true, bcond_false, pk_eq, pk_int, ex_eq, ldc_some, un_not, un_neg, mn_eq, mx_eq, bin_add, bin_sub, bin_mul, bin_lss, bin_leq, bin_gtr, bin_geq, bin_eql, bin_neq, bin_peq, bin_pne, bin_beq, bin_bne, bin_leqn, bin_lnen, bin_seq, bin_sne, bin_sge, bin_slt, rdc_cells, mapEs_some, frz_none, Nat.zero_add, Nat.add_zero, List.getElem?_toArray, List.getElem?_cons_zero, List.getElem?_cons_succ, Option.isNone_some, Option.isNone_none, Bool.not_true, Bool.not_false, ite_true, ite_false, Bool.false_eq_true, true_and, and_true, forall_const, false_implies, reduceCtorEq, Bool.true_eq_false, Nat.reduceAdd, Nat.reduceMul, Nat.reduceLT, Nat.reduceSub, Int.reduceEq, Int.reduceLT, decide_true, decide_false, List.setIfInBounds_toArray, List.set_cons_zero, List.set_cons_succ, List.size_toArray, List.length_cons, List.length_nil, frz00, one_int, one_bool, one_ptr, one_str, one_slice, one_map, one_func, one_nil, one_niliface, size_put, size_alloc, put_same, st1_put, bsc_empty, List.nil_append, List.append_nil, List.map_cons, List.map_nil, cells_ptr, cells_str, cells_int, cells_bool, cells_slice, cells_agg, cells_map, fillB_one, fillB_nil, bdc, hblk, ptr]
  refine ⟨fun s u => ∃ (i : Nat) (v : Value), s = [v, .int .i64 i] ∧ i ≤ X.fs.length ∧ Fr w.heap.size No w u ∧ FilesO w.heap.size u (Files.drop (X.fs.take i) a) v, fun s _ => match s with | [_, .int _ i] => (X.fs.length - i).toNat | _ => 0, ⟨0, _, rfl, Nat.zero_le _, Fr.refl, by simpa [Files.drop] using FilesO.nil _ _⟩, ?_⟩
  rintro g u ⟨i, v, hg, hi, hf, hO⟩
  simp only [List.map_cons, List.map_nil, List.cons.injEq, and_true] at hg
  obtain ⟨hg1, hg2⟩ := hg
  simp only [hg1, hg2, T.fa_52_0, T.ld_50, T.ln_50, T.ia_50, T.ld_96, T.al_96, T.st_96, T.fa_96_0, T.ld_9, T.bs_50_1, T.ap_50_50, T.st_50, bx_eq, mm_eq, nc_eq, cnd_eq, bcond_true, bcond_false, pk_eq, pk_int, ex_eq, ldc_some, un_not, un_neg, mn_eq, mx_eq, bin_add, bin_sub, bin_mul, bin_lss, bin_leq, bin_gtr, bin_geq, bin_eql, bin_neq, bin_peq, bin_pne, bin_beq, bin_bne, bin_leqn, bin_lnen, bin_seq, bin_sne, bin_sge, bin_slt, rdc_cells, mapEs_some, frz_none, Nat.zero_add, Nat.add_zero, List.getElem?_toArray, List.getElem?_cons_zero, List.getElem?_cons_succ, Option.isNone_some, Option.isNone_none, Bool.not_true, Bool.not_false, ite_true, ite_false, Bool.false_eq_true, true_and, and_true, forall_const, false_implies, reduceCtorEq, Bool.true_eq_false, Nat.reduceAdd, Nat.reduceMul, Nat.reduceLT, Nat.reduceSub, Int.reduceEq, Int.reduceLT, decide_true, decide_false, List.setIfInBounds_toArray, List.set_cons_zero, List.set_cons_succ, List.size_toArray, List.length_cons, List.length_nil, frz00, one_int, one_bool, one_ptr, one_str, one_slice, one_map, one_func, one_nil, one_niliface, size_put, size_alloc, put_same, st1_put, bsc_empty, List.nil_append, List.append_nil, List.map_cons, List.map_nil, cells_ptr, cells_str, cells_int, cells_bool, cells_slice, cells_agg, cells_map, fillB_one, fillB_nil, bdc, bcond_dec, bcond_ndec]
  refine ⟨fun hlt => ?_, fun hge => ?_⟩
  · have hlt : i < X.fs.length := by omega
    obtain ⟨b, o, c', bv, sv, he, _, hrd, hbv, hsv, h32⟩ := (h.fs.young hf).row hlt
    injection he with e1 e2 e3
    subst e1
    simp only [T.fa_52_0, T.ld_50, T.ln_50, T.ia_50, T.ld_96, T.al_96, T.st_96, T.fa_96_0, T.ld_9, T.bs_50_1, T.ap_50_50, T.st_50, bx_eq, mm_eq, nc_eq, cnd_eq, bcond_true, bcond_false, pk_eq, pk_int, ex_eq, ldc_some, un_not, un_neg, mn_eq, mx_eq, bin_add, bin_sub, bin_mul, bin_lss, bin_leq, bin_gtr, bin_geq, bin_eql, bin_neq, bin_peq, bin_pne, bin_beq, bin_bne, bin_leqn, bin_lnen, bin_seq, bin_sne, bin_sge, bin_slt, rdc_cells, mapEs_some, frz_none, Nat.zero_add, Nat.add_zero, List.getElem?_toArray, List.getElem?_cons_zero, List.getElem?_cons_succ, Option.isNone_some, Option.isNone_none, Bool.not_true, Bool.not_false, ite_true, ite_false, Bool.false_eq_true, true_and, and_true, forall_const, false_implies, reduceCtorEq, Bool.true_eq_false, Nat.reduceAdd, Nat.reduceMul, Nat.reduceLT, Nat.reduceSub, Int.reduceEq, Int.reduceLT, decide_true, decide_false, List.setIfInBounds_toArray, List.set_cons_zero, List.set_cons_succ, List.size_toArray, List.length_cons, List.length_nil, frz00, one_int, one_bool, one_ptr, one_str, one_slice, one_map, one_func, one_nil, one_niliface, size_put, size_alloc, put_same, st1_put, bsc_empty, List.nil_append, List.append_nil, List.map_cons, List.map_nil, cells_ptr, cells_str, cells_int, cells_bool, cells_slice, cells_agg, cells_map, fillB_one, fillB_nil, bdc, Int.toNat_natCast, hrd, ldn]
    refine ⟨by omega, by omega, ?_⟩
    refine stN_new rfl rfl (row_one hbv hsv) ?_
    generalize hu2 : u.alloc (.cells #[.string (X.fs[i]).1, bv, sv] 96 (0, 0)) = u2
    have hfu : Fr u.heap.size No u u2 := by rw [← hu2]; exact Fr.refl.alloc (Nat.le_refl _)
    have hf2 : Fr w.heap.size No w u2 := hf.trans (hfu.no hf.1)
    have ha : u2.heap[u.heap.size]? = some (.cells #[.string (X.fs[i]).1, bv, sv] 96 (0, 0)) := by rw [← hu2]; exact alloc_at rfl
    have hrd2 : rdn (some (.cells #[.string (X.fs[i]).1, bv, sv] 96 (0, 0))) 0 3 = some #[.string (X.fs[i]).1, bv, sv] := rfl
    have hO2 := hO.young hfu
    have htake : Files.drop (X.fs.take (i + 1)) a = Files.drop (X.fs.take i) a ++ (if (X.fs[i]).1 = a then [] else [X.fs[i]]) := by
      unfold Files.drop
      rw [List.take_succ_eq_append_getElem hlt, List.filter_append]
      congr 1
      by_cases hk : (X.fs[i]).1 = a <;> simp [hk]
    have hdl : (Files.drop (X.fs.take i) a).length ≤ X.fs.length := Nat.le_trans filter_len (by rw [List.length_take]; omega)
    simp only [T.fa_52_0, T.ld_50, T.ln_50, T.ia_50, T.ld_96, T.al_96, T.st_96, T.fa_96_0, T.ld_9, T.bs_50_1, T.ap_50_50, T.st_50, bx_eq, mm_eq, nc_eq, cnd_eq, bcond_true, bcond_false, pk_eq, pk_int, ex_eq, ldc_some, un_not, un_neg, mn_eq, mx_eq, bin_add, bin_sub, bin_mul, bin_lss, bin_leq, bin_gtr, bin_geq, bin_eql, bin_neq, bin_peq, bin_pne, bin_beq, bin_bne, bin_leqn, bin_lnen, bin_seq, bin_sne, bin_sge, bin_slt, rdc_cells, mapEs_some, frz_none, Nat.zero_add, Nat.add_zero, List.getElem?_toArray, List.getElem?_cons_zero, List.getElem?_cons_succ, Option.isNone_some, Option.isNone_none, Bool.not_true, Bool.not_false, ite_true, ite_false, Bool.false_eq_true, true_and, and_true, forall_const, false_implies, reduceCtorEq, Bool.true_eq_false, Nat.reduceAdd, Nat.reduceMul, Nat.reduceLT, Nat.reduceSub, Int.reduceEq, Int.reduceLT, decide_true, decide_false, List.setIfInBounds_toArray, List.set_cons_zero, List.set_cons_succ, List.size_toArray, List.length_cons, List.length_nil, frz00, one_int, one_bool, one_ptr, one_str, one_slice, one_map, one_func, one_nil, one_niliface, size_put, size_alloc, put_same, st1_put, bsc_empty, List.nil_append, List.append_nil, List.map_cons, List.map_nil, cells_ptr, cells_str, cells_int, cells_bool, cells_slice, cells_agg, cells_map, fillB_one, fillB_nil, bdc, ha, bcond_ndec]
    refine ⟨fun hk => ?_, fun hk => ?_⟩
    · simp only [hrd2]
      refine hO2.snoc (p := X.fs[i]) (cs := [.string (X.fs[i]).1, bv, sv]) ⟨bv, sv, rfl, Sl.fr hbv hfu fun b X f _ hb => ⟨lt_at hb, no_not⟩, Sl.fr hsv hfu fun b X f _ hb => ⟨lt_at hb, no_not⟩, h32⟩ hf2.1 (by omega) fun v' w' hO3 hf3 _ => ?_
      rw [IntWalk.i64_in _ (by omega)]
      refine ⟨⟨i + 1, v', by simp, by omega, hf2.trans hf3, ?_⟩, by omega⟩
      rw [htake, if_neg hk]; exact hO3
    · rw [IntWalk.i64_in _ (by omega)]
      refine ⟨⟨i + 1, v, by simp, by omega, hf2, ?_⟩, by omega⟩
      rw [htake, if_pos hk, List.append_nil]; exact hO2
  · have : i = X.fs.length := by omega
    subst this
    rw [List.take_length] at hO
    have hX := h.young hf
    have hXb := hX.blk
    unfold Rk.cells at hXb
    simp only [st1_at hXb, T.fa_52_0, T.ld_50, T.ln_50, T.ia_50, T.ld_96, T.al_96, T.st_96, T.fa_96_0, T.ld_9, T.bs_50_1, T.ap_50_50, T.st_50, bx_eq, mm_eq, nc_eq, cnd_eq, bcond_true, bcond_false, pk_eq, pk_int, ex_eq, ldc_some, un_not, un_neg, mn_eq, mx_eq, bin_add, bin_sub, bin_mul, bin_lss, bin_leq, bin_gtr, bin_geq, bin_eql, bin_neq, bin_peq, bin_pne, bin_beq, bin_bne, bin_leqn, bin_lnen, bin_seq, bin_sne, bin_sge, bin_slt, rdc_cells, mapEs_some, frz_none, Nat.zero_add, Nat.add_zero, List.getElem?_toArray, List.getElem?_cons_zero, List.getElem?_cons_succ, Option.isNone_some, Option.isNone_none, Bool.not_true, Bool.not_false, ite_true, ite_false, Bool.false_eq_true, true_and, and_true, forall_const, false_implies, reduceCtorEq, Bool.true_eq_false, Nat.reduceAdd, Nat.reduceMul, Nat.reduceLT, Nat.reduceSub, Int.reduceEq, Int.reduceLT, decide_true, decide_false, List.setIfInBounds_toArray, List.set_cons_zero, List.set_cons_succ, List.size_toArray, List.length_cons, List.length_nil, frz00, one_int, one_bool, one_ptr, one_str, one_slice, one_map, one_func, one_nil, one_niliface, size_put, size_alloc, put_same, st1_put, bsc_empty, List.nil_append, List.append_nil, List.map_cons, List.map_nil, cells_ptr, cells_str, cells_int, cells_bool, cells_slice, cells_agg, cells_map, fillB_one, fillB_nil, bdc]
    refine ⟨?_, ?_⟩
    · obtain ⟨A, c, rfl⟩ := hO.shape; rfl
    · exact hR _ v (hX.put (X' := { X with fs := X.fs.drop a }) (hO.v.mono fun _ hb => Nat.le_trans (h.le) hb)) (hX.fput hO.v) ((hf.no (Nat.le_refl _)).put (.inl rfl))

/-- One round of put. -/
def putStep (f : ByteArray × List Sec) (s : Bool × Files) (y : ByteArray × List Sec) : Bool × Files :=
  let s1 : Bool × Files := if slt y.1 f.1 = false ∧ s.1 = false then (true, s.2 ++ [f]) else s
  if y.1 = f.1 then s1 else (s1.1, s1.2 ++ [y])
def putRun (l : Files) (f : ByteArray × List Sec) : Bool × Files := l.foldl (putStep f) (false, [])
def Files.put (l : Files) (f : ByteArray × List Sec) : Files := if (putRun l f).1 then (putRun l f).2 else (putRun l f).2 ++ [f]
theorem putRun_succ {l : Files} {f : ByteArray × List Sec} {i : Nat} (hi : i < l.length) : putRun (l.take (i + 1)) f = putStep f (putRun (l.take i) f) l[i] := by
  unfold putRun
  rw [List.take_succ_eq_append_getElem hi, List.foldl_append]; rfl
theorem putRun_len {l : Files} {f : ByteArray × List Sec} : ∀ i, i ≤ l.length → (putRun (l.take i) f).2.length ≤ 2 * i := by
  intro i
  induction i with
  | zero => intro _; simp [putRun]
  | succ i ih =>
    intro hi
    rw [putRun_succ (by omega)]
    have := ih (by omega)
    unfold putStep
    split <;> split <;> simp <;> omega

theorem ref_put {N : Nat} {w : World} {x : Nat} {X : Rk} {fv : Value} {f : ByteArray × List Sec} {cs : List Value} (h : RkAt N w x X fv) (hl : small X.fs.length) (hc : FileC w f cs) {R : Value → World → Prop}
    (hR : ∀ w' fv', RkAt N w' x { X with fs := X.fs.put f } fv' → FilesV (fun b => w.heap.size ≤ b) w' (X.fs.put f) fv' → Fr w.heap.size (fun b => b = x) w w' → R (.tuple #[]) w') : cl Tryd.prog 46 #[ptr x, .agg cs.toArray] w R := by
  have hblk := h.blk
  unfold Rk.cells at hblk
  obtain ⟨A, c, rfl⟩ := h.fs.shape
  have hl : X.fs.length < 2 ^ 36 := hl
  obtain ⟨bv0, sv0, rfl, hbv0, hsv0, h320⟩ := hc
  refine C.r09_put ?_
  unfold F.r09_put
  simp only [bx_eq, cells_agg]
  generalize hw1 : w.alloc (.cells #[.string f.1, bv0, sv0] 96 (0, 0)) = w1
  have hfw : Fr w.heap.size No w w1 := by rw [← hw1]; exact Fr.refl.alloc (Nat.le_refl _)
  have hbf : w1.heap[w.heap.size]? = some (.cells #[.string f.1, bv0, sv0] 96 (0, 0)) := by rw [← hw1]; exact alloc_at rfl
  have hcf : FileC w1 f [.string f.1, bv0, sv0] := FileC.young ⟨bv0, sv0, rfl, hbv0, hsv0, h320⟩ hfw
  have h1 := h.young hfw
  have hblk1 := h1.blk
  unfold Rk.cells at hblk1
  simp only [T.fa_52_0, T.ld_50, T.ln_50, T.ia_50, T.ld_96, T.al_96, T.st_96, T.fa_96_0, T.ld_9, T.bs_50_1, T.ap_50_50, T.st_50, bx_eq, mm_eq, nc_eq, cnd_eq, bcond_true, bcond_false, pk_eq, pk_int, ex_eq, ldc_some, un_not, un_neg, mn_eq, mx_eq, bin_add, bin_sub, bin_mul, bin_lss, bin_leq, bin_gtr, bin_geq, bin_eql, bin_neq, bin_peq, bin_pne, bin_beq, bin_bne, bin_leqn, bin_lnen, bin_seq, bin_sne, bin_sge, bin_slt, rdc_cells, mapEs_some, frz_none, Nat.zero_add, Nat.add_zero, List.getElem?_toArray, List.getElem?_cons_zero, List.getElem?_cons_succ, Option.isNone_some, Option.isNone_none, Bool.not_true, Bool.not_false, ite_true, ite_false, Bool.false_eq_true, true_and, and_true, forall_const, false_implies, reduceCtorEq, Bool.true_eq_false, Nat.reduceAdd, Nat.reduceMul, Nat.reduceLT, Nat.reduceSub, Int.reduceEq, Int.reduceLT, decide_true, decide_false, List.setIfInBounds_toArray, List.set_cons_zero, List.set_cons_succ, List.size_toArray, List.length_cons, List.length_nil, frz00, one_int, one_bool, one_ptr, one_str, one_slice, one_map, one_func, one_nil, one_niliface, size_put, size_alloc, put_same, st1_put, bsc_empty, List.nil_append, List.append_nil, List.map_cons, List.map_nil, cells_ptr, cells_str, cells_int, cells_bool, cells_slice, cells_agg, cells_map, fillB_one, fillB_nil, bdc, hblk1, ptr]
  have hsz1 : w.heap.size < w1.heap.size := lt_at hbf
  refine ⟨fun s u => ∃ (i : Nat) (v : Value), s = [v, .bool (putRun (X.fs.take i) f).1, .int .i64 i] ∧ i ≤ X.fs.length ∧ Fr w1.heap.size No w1 u ∧ FilesO w1.heap.size u (putRun (X.fs.take i) f).2 v, fun s _ => match s with | [_, _, .int _ i] => (X.fs.length - i).toNat | _ => 0, ⟨0, _, rfl, Nat.zero_le _, Fr.refl, by simpa [putRun] using FilesO.nil _ _⟩, ?_⟩
  rintro g u ⟨i, v, hg, hi, hf, hO⟩
  simp only [List.map_cons, List.map_nil, List.cons.injEq, and_true] at hg
  obtain ⟨hg1, hg2, hg3⟩ := hg
  have hfu' := young_at hf hbf
  simp only [hg1, hg2, hg3, T.fa_52_0, T.ld_50, T.ln_50, T.ia_50, T.ld_96, T.al_96, T.st_96, T.fa_96_0, T.ld_9, T.bs_50_1, T.ap_50_50, T.st_50, bx_eq, mm_eq, nc_eq, cnd_eq, bcond_true, bcond_false, pk_eq, pk_int, ex_eq, ldc_some, un_not, un_neg, mn_eq, mx_eq, bin_add, bin_sub, bin_mul, bin_lss, bin_leq, bin_gtr, bin_geq, bin_eql, bin_neq, bin_peq, bin_pne, bin_beq, bin_bne, bin_leqn, bin_lnen, bin_seq, bin_sne, bin_sge, bin_slt, rdc_cells, mapEs_some, frz_none, Nat.zero_add, Nat.add_zero, List.getElem?_toArray, List.getElem?_cons_zero, List.getElem?_cons_succ, Option.isNone_some, Option.isNone_none, Bool.not_true, Bool.not_false, ite_true, ite_false, Bool.false_eq_true, true_and, and_true, forall_const, false_implies, reduceCtorEq, Bool.true_eq_false, Nat.reduceAdd, Nat.reduceMul, Nat.reduceLT, Nat.reduceSub, Int.reduceEq, Int.reduceLT, decide_true, decide_false, List.setIfInBounds_toArray, List.set_cons_zero, List.set_cons_succ, List.size_toArray, List.length_cons, List.length_nil, frz00, one_int, one_bool, one_ptr, one_str, one_slice, one_map, one_func, one_nil, one_niliface, size_put, size_alloc, put_same, st1_put, bsc_empty, List.nil_append, List.append_nil, List.map_cons, List.map_nil, cells_ptr, cells_str, cells_int, cells_bool, cells_slice, cells_agg, cells_map, fillB_one, fillB_nil, bdc, bcond_dec]
  have hplen := putRun_len (l := X.fs) (f := f) i hi
  refine ⟨fun hlt => ?_, fun hge => ?_⟩
  · have hlt : i < X.fs.length := by omega
    obtain ⟨b, o, c', bv, sv, he, _, hrd, hbv, hsv, h32⟩ := (h1.fs.young hf).row hlt
    injection he with e1 e2 e3
    subst e1
    simp only [T.fa_52_0, T.ld_50, T.ln_50, T.ia_50, T.ld_96, T.al_96, T.st_96, T.fa_96_0, T.ld_9, T.bs_50_1, T.ap_50_50, T.st_50, bx_eq, mm_eq, nc_eq, cnd_eq, bcond_true, bcond_false, pk_eq, pk_int, ex_eq, ldc_some, un_not, un_neg, mn_eq, mx_eq, bin_add, bin_sub, bin_mul, bin_lss, bin_leq, bin_gtr, bin_geq, bin_eql, bin_neq, bin_peq, bin_pne, bin_beq, bin_bne, bin_leqn, bin_lnen, bin_seq, bin_sne, bin_sge, bin_slt, rdc_cells, mapEs_some, frz_none, Nat.zero_add, Nat.add_zero, List.getElem?_toArray, List.getElem?_cons_zero, List.getElem?_cons_succ, Option.isNone_some, Option.isNone_none, Bool.not_true, Bool.not_false, ite_true, ite_false, Bool.false_eq_true, true_and, and_true, forall_const, false_implies, reduceCtorEq, Bool.true_eq_false, Nat.reduceAdd, Nat.reduceMul, Nat.reduceLT, Nat.reduceSub, Int.reduceEq, Int.reduceLT, decide_true, decide_false, List.setIfInBounds_toArray, List.set_cons_zero, List.set_cons_succ, List.size_toArray, List.length_cons, List.length_nil, frz00, one_int, one_bool, one_ptr, one_str, one_slice, one_map, one_func, one_nil, one_niliface, size_put, size_alloc, put_same, st1_put, bsc_empty, List.nil_append, List.append_nil, List.map_cons, List.map_nil, cells_ptr, cells_str, cells_int, cells_bool, cells_slice, cells_agg, cells_map, fillB_one, fillB_nil, bdc, Int.toNat_natCast, hrd, ldn]
    refine ⟨fun s u' => ∃ v' : Value, s = [v', .bool (putRun (X.fs.take (i + 1)) f).1] ∧ Fr w1.heap.size No w1 u' ∧ FilesO w1.heap.size u' (putRun (X.fs.take (i + 1)) f).2 v', ⟨by omega, by omega, ?_⟩, ?_⟩
    · refine stN_new rfl rfl (row_one hbv hsv) ?_
      generalize hu2 : u.alloc (.cells #[.string (X.fs[i]).1, bv, sv] 96 (0, 0)) = u2
      have hfu : Fr u.heap.size No u u2 := by rw [← hu2]; exact Fr.refl.alloc (Nat.le_refl _)
      have hf2 : Fr w1.heap.size No w1 u2 := hf.trans (hfu.no hf.1)
      have ha : u2.heap[u.heap.size]? = some (.cells #[.string (X.fs[i]).1, bv, sv] 96 (0, 0)) := by rw [← hu2]; exact alloc_at rfl
      have hbf2 := young_at hf2 hbf
      have hO2 := hO.young hfu
      have hrow : FileC u2 X.fs[i] [.string (X.fs[i]).1, bv, sv] := FileC.young ⟨bv, sv, rfl, hbv, hsv, h32⟩ hfu
      have hrdf : rdn (some (.cells #[.string f.1, bv0, sv0] 96 (0, 0))) 0 3 = some #[.string f.1, bv0, sv0] := rfl
      -- what holds behind the first part of the round
      refine ⟨fun s u3 => ∃ (v3 : Value) (q : Bool × Files), s = [v3, .bool q.1] ∧ q = (if slt (X.fs[i]).1 f.1 = false ∧ (putRun (X.fs.take i) f).1 = false then (true, (putRun (X.fs.take i) f).2 ++ [f]) else putRun (X.fs.take i) f) ∧ Fr u2.heap.size (fun b => ∃ o n c, v = .slice (some ⟨b, o, none⟩) n c) u2 u3 ∧ Fr w1.heap.size No w1 u3 ∧ FilesO w1.heap.size u3 q.2 v3 ∧ q.2.length ≤ 2 * i + 1, ?_, ?_⟩
      · simp only [ha, hbf2, T.fa_52_0, T.ld_50, T.ln_50, T.ia_50, T.ld_96, T.al_96, T.st_96, T.fa_96_0, T.ld_9, T.bs_50_1, T.ap_50_50, T.st_50, bx_eq, mm_eq, nc_eq, cnd_eq, bcond_true, bcond_false, pk_eq, pk_int, ex_eq, ldc_some, un_not, un_neg, mn_eq, mx_eq, bin_add, bin_sub, bin_mul, bin_lss, bin_leq, bin_gtr, bin_geq, bin_eql, bin_neq, bin_peq, bin_pne, bin_beq, bin_bne, bin_leqn, bin_lnen, bin_seq, bin_sne, bin_sge, bin_slt, rdc_cells, mapEs_some, frz_none, Nat.zero_add, Nat.add_zero, List.getElem?_toArray, List.getElem?_cons_zero, List.getElem?_cons_succ, Option.isNone_some, Option.isNone_none, Bool.not_true, Bool.not_false, ite_true, ite_false, Bool.false_eq_true, true_and, and_true, forall_const, false_implies, reduceCtorEq, Bool.true_eq_false, Nat.reduceAdd, Nat.reduceMul, Nat.reduceLT, Nat.reduceSub, Int.reduceEq, Int.reduceLT, decide_true, decide_false, List.setIfInBounds_toArray, List.set_cons_zero, List.set_cons_succ, List.size_toArray, List.length_cons, List.length_nil, frz00, one_int, one_bool, one_ptr, one_str, one_slice, one_map, one_func, one_nil, one_niliface, size_put, size_alloc, put_same, st1_put, bsc_empty, List.nil_append, List.append_nil, List.map_cons, List.map_nil, cells_ptr, cells_str, cells_int, cells_bool, cells_slice, cells_agg, cells_map, fillB_one, fillB_nil, bdc, bcond_iff]
        refine ⟨fun c1 => ⟨fun c2 => ?_, fun c2 => ?_⟩, fun c1 => ?_⟩
        · simp only [hrdf]
          refine hO2.snoc (p := f) (cs := [.string f.1, bv0, sv0]) (hcf.young hf2) hf2.1 (by omega) fun v' w' hO3 hf3 hf4 => ?_
          exact ⟨v', (true, (putRun (X.fs.take i) f).2 ++ [f]), rfl, by rw [if_pos ⟨by simpa using c1, by simpa using c2⟩], hf4, hf2.trans hf3, hO3, by simp; omega⟩
        · exact ⟨v, putRun (X.fs.take i) f, rfl, by rw [if_neg (by intro hx; rw [hx.2] at c2; cases c2)], Fr.refl, hf2, hO2, by omega⟩
        · exact ⟨v, putRun (X.fs.take i) f, rfl, by rw [if_neg (by intro hx; rw [hx.1] at c1; cases c1)], Fr.refl, hf2, hO2, by omega⟩
      · rintro g3 u3 ⟨v3, q, hg4, hq, hf3, hf4, hO3, hql⟩
        simp only [List.map_cons, List.map_nil, List.cons.injEq, and_true] at hg4
        obtain ⟨hg4, hg5⟩ := hg4
        have hvb : ∀ b, b = u.heap.size → ¬ ∃ o n c, v = .slice (some ⟨b, o, none⟩) n c := by
          rintro b rfl ⟨o, n, c, rfl⟩
          obtain ⟨rows, _, _, hw⟩ := hO
          obtain ⟨A, c2, e, _⟩ := hw.sl.shape
          injection e with _ e2 _
          subst e2
          exact absurd hw.lt (Nat.lt_irrefl _)
        have ha3 : u3.heap[u.heap.size]? = some (.cells #[.string (X.fs[i]).1, bv, sv] 96 (0, 0)) := hf3.at ha (lt_at ha) (hvb _ rfl)
        have hbf3 := young_at hf4 hbf
        have hrow3 : FileC u3 X.fs[i] [.string (X.fs[i]).1, bv, sv] := hrow.fr hf3 fun b Y e f' he hb => ⟨lt_at hb, by
          rintro ⟨o, n, c, rfl⟩
          obtain ⟨rows, _, _, A, c2, e', _, _, hx⟩ := hO2
          rcases hx with hx | ⟨b', o', X', hA, _, hb', _⟩
          · injection e' with e1; rw [hx.1] at e1; cases e1
          · injection e' with e1; rw [hA] at e1; injection e1 with e1; injection e1 with e1
            subst e1
            rw [hb'] at hb; injection hb with hb; injection hb with _ hb
            subst hb
            rcases he with he | he <;> cases he⟩
        have hrd3 : rdn (some (.cells #[.string (X.fs[i]).1, bv, sv] 96 (0, 0))) 0 3 = some #[.string (X.fs[i]).1, bv, sv] := rfl
        simp only [hg4, hg5, ha3, hbf3, T.fa_52_0, T.ld_50, T.ln_50, T.ia_50, T.ld_96, T.al_96, T.st_96, T.fa_96_0, T.ld_9, T.bs_50_1, T.ap_50_50, T.st_50, bx_eq, mm_eq, nc_eq, cnd_eq, bcond_true, bcond_false, pk_eq, pk_int, ex_eq, ldc_some, un_not, un_neg, mn_eq, mx_eq, bin_add, bin_sub, bin_mul, bin_lss, bin_leq, bin_gtr, bin_geq, bin_eql, bin_neq, bin_peq, bin_pne, bin_beq, bin_bne, bin_leqn, bin_lnen, bin_seq, bin_sne, bin_sge, bin_slt, rdc_cells, mapEs_some, frz_none, Nat.zero_add, Nat.add_zero, List.getElem?_toArray, List.getElem?_cons_zero, List.getElem?_cons_succ, Option.isNone_some, Option.isNone_none, Bool.not_true, Bool.not_false, ite_true, ite_false, Bool.false_eq_true, true_and, and_true, forall_const, false_implies, reduceCtorEq, Bool.true_eq_false, Nat.reduceAdd, Nat.reduceMul, Nat.reduceLT, Nat.reduceSub, Int.reduceEq, Int.reduceLT, decide_true, decide_false, List.setIfInBounds_toArray, List.set_cons_zero, List.set_cons_succ, List.size_toArray, List.length_cons, List.length_nil, frz00, one_int, one_bool, one_ptr, one_str, one_slice, one_map, one_func, one_nil, one_niliface, size_put, size_alloc, put_same, st1_put, bsc_empty, List.nil_append, List.append_nil, List.map_cons, List.map_nil, cells_ptr, cells_str, cells_int, cells_bool, cells_slice, cells_agg, cells_map, fillB_one, fillB_nil, bdc, bcond_ndec]
        refine ⟨fun c1 => ?_, fun c1 => ?_⟩
        · simp only [hrd3]
          refine hO3.snoc hrow3 hf4.1 (by omega) fun v' w' hO4 hf5 _ => ?_
          have e : putRun (X.fs.take (i + 1)) f = (q.1, q.2 ++ [X.fs[i]]) := by
            rw [putRun_succ hlt]; unfold putStep; simp only [← hq]; rw [if_neg c1]
          rw [e]
          exact ⟨v', rfl, hf4.trans hf5, hO4⟩
        · have e : putRun (X.fs.take (i + 1)) f = q := by
            rw [putRun_succ hlt]; unfold putStep; simp only [← hq]; rw [if_pos c1]
          rw [e]
          exact ⟨v3, rfl, hf4, hO3⟩
    · rintro g3 u3 ⟨v3, hg4, hf3, hO3⟩
      simp only [List.map_cons, List.map_nil, List.cons.injEq, and_true] at hg4
      obtain ⟨hg4, hg5⟩ := hg4
      simp only [hg4, hg5, T.fa_52_0, T.ld_50, T.ln_50, T.ia_50, T.ld_96, T.al_96, T.st_96, T.fa_96_0, T.ld_9, T.bs_50_1, T.ap_50_50, T.st_50, bx_eq, mm_eq, nc_eq, cnd_eq, bcond_true, bcond_false, pk_eq, pk_int, ex_eq, ldc_some, un_not, un_neg, mn_eq, mx_eq, bin_add, bin_sub, bin_mul, bin_lss, bin_leq, bin_gtr, bin_geq, bin_eql, bin_neq, bin_peq, bin_pne, bin_beq, bin_bne, bin_leqn, bin_lnen, bin_seq, bin_sne, bin_sge, bin_slt, rdc_cells, mapEs_some, frz_none, Nat.zero_add, Nat.add_zero, List.getElem?_toArray, List.getElem?_cons_zero, List.getElem?_cons_succ, Option.isNone_some, Option.isNone_none, Bool.not_true, Bool.not_false, ite_true, ite_false, Bool.false_eq_true, true_and, and_true, forall_const, false_implies, reduceCtorEq, Bool.true_eq_false, Nat.reduceAdd, Nat.reduceMul, Nat.reduceLT, Nat.reduceSub, Int.reduceEq, Int.reduceLT, decide_true, decide_false, List.setIfInBounds_toArray, List.set_cons_zero, List.set_cons_succ, List.size_toArray, List.length_cons, List.length_nil, frz00, one_int, one_bool, one_ptr, one_str, one_slice, one_map, one_func, one_nil, one_niliface, size_put, size_alloc, put_same, st1_put, bsc_empty, List.nil_append, List.append_nil, List.map_cons, List.map_nil, cells_ptr, cells_str, cells_int, cells_bool, cells_slice, cells_agg, cells_map, fillB_one, fillB_nil, bdc]
      rw [IntWalk.i64_in _ (by omega)]
      exact ⟨⟨i + 1, v3, by simp, by omega, hf3, hO3⟩, by omega⟩
  · have : i = X.fs.length := by omega
    subst this
    rw [List.take_length] at hO hplen
    have hX := h1.young hf
    have hXb := hX.blk
    unfold Rk.cells at hXb
    rw [List.take_length]
    have hrdf : rdn (some (.cells #[.string f.1, bv0, sv0] 96 (0, 0))) 0 3 = some #[.string f.1, bv0, sv0] := rfl
    simp only [hfu', T.fa_52_0, T.ld_50, T.ln_50, T.ia_50, T.ld_96, T.al_96, T.st_96, T.fa_96_0, T.ld_9, T.bs_50_1, T.ap_50_50, T.st_50, bx_eq, mm_eq, nc_eq, cnd_eq, bcond_true, bcond_false, pk_eq, pk_int, ex_eq, ldc_some, un_not, un_neg, mn_eq, mx_eq, bin_add, bin_sub, bin_mul, bin_lss, bin_leq, bin_gtr, bin_geq, bin_eql, bin_neq, bin_peq, bin_pne, bin_beq, bin_bne, bin_leqn, bin_lnen, bin_seq, bin_sne, bin_sge, bin_slt, rdc_cells, mapEs_some, frz_none, Nat.zero_add, Nat.add_zero, List.getElem?_toArray, List.getElem?_cons_zero, List.getElem?_cons_succ, Option.isNone_some, Option.isNone_none, Bool.not_true, Bool.not_false, ite_true, ite_false, Bool.false_eq_true, true_and, and_true, forall_const, false_implies, reduceCtorEq, Bool.true_eq_false, Nat.reduceAdd, Nat.reduceMul, Nat.reduceLT, Nat.reduceSub, Int.reduceEq, Int.reduceLT, decide_true, decide_false, List.setIfInBounds_toArray, List.set_cons_zero, List.set_cons_succ, List.size_toArray, List.length_cons, List.length_nil, frz00, one_int, one_bool, one_ptr, one_str, one_slice, one_map, one_func, one_nil, one_niliface, size_put, size_alloc, put_same, st1_put, bsc_empty, List.nil_append, List.append_nil, List.map_cons, List.map_nil, cells_ptr, cells_str, cells_int, cells_bool, cells_slice, cells_agg, cells_map, fillB_one, fillB_nil, bdc, bcond_iff]
    refine ⟨fun c1 => ?_, fun c1 => ?_⟩
    · have c1 : (putRun X.fs f).1 = false := by simpa using c1
      simp only [hrdf, ldn]
      refine hO.snoc (p := f) (cs := [.string f.1, bv0, sv0]) (hcf.young hf) hf.1 (by omega) fun v' w' hO3 hf3 hf4 => ?_
      have hX3 := h1.young (hf.trans hf3)
      have hXb3 := hX3.blk
      unfold Rk.cells at hXb3
      simp only [st1_at hXb3, T.fa_52_0, T.ld_50, T.ln_50, T.ia_50, T.ld_96, T.al_96, T.st_96, T.fa_96_0, T.ld_9, T.bs_50_1, T.ap_50_50, T.st_50, bx_eq, mm_eq, nc_eq, cnd_eq, bcond_true, bcond_false, pk_eq, pk_int, ex_eq, ldc_some, un_not, un_neg, mn_eq, mx_eq, bin_add, bin_sub, bin_mul, bin_lss, bin_leq, bin_gtr, bin_geq, bin_eql, bin_neq, bin_peq, bin_pne, bin_beq, bin_bne, bin_leqn, bin_lnen, bin_seq, bin_sne, bin_sge, bin_slt, rdc_cells, mapEs_some, frz_none, Nat.zero_add, Nat.add_zero, List.getElem?_toArray, List.getElem?_cons_zero, List.getElem?_cons_succ, Option.isNone_some, Option.isNone_none, Bool.not_true, Bool.not_false, ite_true, ite_false, Bool.false_eq_true, true_and, and_true, forall_const, false_implies, reduceCtorEq, Bool.true_eq_false, Nat.reduceAdd, Nat.reduceMul, Nat.reduceLT, Nat.reduceSub, Int.reduceEq, Int.reduceLT, decide_true, decide_false, List.setIfInBounds_toArray, List.set_cons_zero, List.set_cons_succ, List.size_toArray, List.length_cons, List.length_nil, frz00, one_int, one_bool, one_ptr, one_str, one_slice, one_map, one_func, one_nil, one_niliface, size_put, size_alloc, put_same, st1_put, bsc_empty, List.nil_append, List.append_nil, List.map_cons, List.map_nil, cells_ptr, cells_str, cells_int, cells_bool, cells_slice, cells_agg, cells_map, fillB_one, fillB_nil, bdc]
      have e : X.fs.put f = (putRun X.fs f).2 ++ [f] := by unfold Files.put; rw [c1]; rfl
      refine ⟨?_, hR _ v' (hX3.put (X' := { X with fs := X.fs.put f }) (by rw [e]; exact (hO3.v.mono fun _ hb => Nat.le_trans (h1.le) hb))) (hX3.fput (by rw [e]; exact hO3.v.mono fun b hb => Nat.le_trans hfw.1 hb)) (((hfw.then (hf.trans hf3) hfw.1 fun _ _ h => h).no (Nat.le_refl _)).put (.inl rfl))⟩
      obtain ⟨A, c, rfl⟩ := hO3.shape; rfl
    · have c1 : (putRun X.fs f).1 = true := by simpa using c1
      simp only [st1_at hXb, T.fa_52_0, T.ld_50, T.ln_50, T.ia_50, T.ld_96, T.al_96, T.st_96, T.fa_96_0, T.ld_9, T.bs_50_1, T.ap_50_50, T.st_50, bx_eq, mm_eq, nc_eq, cnd_eq, bcond_true, bcond_false, pk_eq, pk_int, ex_eq, ldc_some, un_not, un_neg, mn_eq, mx_eq, bin_add, bin_sub, bin_mul, bin_lss, bin_leq, bin_gtr, bin_geq, bin_eql, bin_neq, bin_peq, bin_pne, bin_beq, bin_bne, bin_leqn, bin_lnen, bin_seq, bin_sne, bin_sge, bin_slt, rdc_cells, mapEs_some, frz_none, Nat.zero_add, Nat.add_zero, List.getElem?_toArray, List.getElem?_cons_zero, List.getElem?_cons_succ, Option.isNone_some, Option.isNone_none, Bool.not_true, Bool.not_false, ite_true, ite_false, Bool.false_eq_true, true_and, and_true, forall_const, false_implies, reduceCtorEq, Bool.true_eq_false, Nat.reduceAdd, Nat.reduceMul, Nat.reduceLT, Nat.reduceSub, Int.reduceEq, Int.reduceLT, decide_true, decide_false, List.setIfInBounds_toArray, List.set_cons_zero, List.set_cons_succ, List.size_toArray, List.length_cons, List.length_nil, frz00, one_int, one_bool, one_ptr, one_str, one_slice, one_map, one_func, one_nil, one_niliface, size_put, size_alloc, put_same, st1_put, bsc_empty, List.nil_append, List.append_nil, List.map_cons, List.map_nil, cells_ptr, cells_str, cells_int, cells_bool, cells_slice, cells_agg, cells_map, fillB_one, fillB_nil, bdc]
      have e : X.fs.put f = (putRun X.fs f).2 := by unfold Files.put; rw [c1]; rfl
      refine ⟨?_, hR _ v (hX.put (X' := { X with fs := X.fs.put f }) (by rw [e]; exact (hO.v.mono fun _ hb => Nat.le_trans (h1.le) hb))) (hX.fput (by rw [e]; exact hO.v.mono fun b hb => Nat.le_trans hfw.1 hb)) (((hfw.then hf hfw.1 fun _ _ h => h).no (Nat.le_refl _)).put (.inl rfl))⟩
      obtain ⟨A, c, rfl⟩ := hO.shape; rfl
end Go.Proofs.YtppefblkmgihoaaDoor
