/- DiskPlays: the arguments opened; the statement; the card. -/
import Derived.Test.YtppefblkmgihoaaDoorP5
import Derived.Test.YtppefblkmgihoaaDoorCards
import Derived.Test.YtppefblkmgihoaaDoorTie
import Derived.Deep.DeepHandedRow
import Derived.Deep.DeepWitnessRowRef
import Derived.Carry
import Derived.LaidLaws
import Derived.ChangeVars
import Derived.KernelRfl
set_option linter.unusedVariables false
set_option linter.unusedSimpArgs false
set_option maxRecDepth 10000
namespace Go.Proofs.YtppefblkmgihoaaDoor
open Go.ChangeShapes Go.WideShapes Go.Sh

section
variable {H : Type} {enc : TypeId × Value → H} {W : World}

theorem bulk_one (d : DataW H) : 1 ≤ Rows.uptoBulk d := by
  cases d with
  | lit l => cases l <;> simp [Rows.uptoBulk]
  | nil => simp [Rows.uptoBulk]
  | ptr d => simp [Rows.uptoBulk]
  | slice elems spare => simp [Rows.uptoBulk]
  | agg parts => simp [Rows.uptoBulk]
  | iface t d => simp [Rows.uptoBulk]
  | map entries => simp [Rows.uptoBulk]
  | held h => simp [Rows.uptoBulk]
theorem bulk_len (l : List (DataW H)) : l.length ≤ Rows.uptoBulkAll l := by
  induction l with
  | nil => simp [Rows.uptoBulkAll]
  | cons x r ih => have := bulk_one x; simp only [Rows.uptoBulkAll, List.length_cons]; omega
theorem bulk_part {d : DataW H} {l : List (DataW H)} (h : d ∈ l) : Rows.uptoBulk d ≤ Rows.uptoBulkAll l := by
  induction l with
  | nil => cases h
  | cons x r ih =>
    simp only [Rows.uptoBulkAll]
    cases List.mem_cons.1 h with
    | inl e => subst e; omega
    | inr e => have := ih e; omega

theorem cells_get {a : Addr} {n : Nat} {cs : List Value} (h : W.cells? 0 a n = some cs) : cs.length = n ∧ ∀ k, k < n → W.cell? (a.add k) = cs[k]? := by
  unfold World.cells? at h
  rw [if_pos (Nat.zero_le _)] at h
  refine ⟨by simpa using mapM_some_length h, fun k hk => ?_⟩
  exact mapM_some_get h k k (by simp [hk])
theorem u8_of (P : Program) {t : TypeId} (ht : P.underlying t = some (.int .u8)) (n : Nat) (cs : List Value) (y : DataW H × List MemPlace) (h : DataW.trod enc P W 0 (fun _ => true) true n t cs = some y) : ∃ b : UInt8, cs = [.int .u8 b.toNat] := by
  obtain ⟨z, rfl, _, hw⟩ := DataW.trod_int ht h
  have hb : 0 ≤ z ∧ z ≤ 255 := by simp [Lit.wf, IntKind.min, IntKind.max, IntKind.signed, IntKind.bits] at hw; omega
  refine ⟨UInt8.ofNat z.toNat, ?_⟩
  have : ((UInt8.ofNat z.toNat).toNat : Int) = z := by
    rw [UInt8.toNat_ofNat']
    have h2 : z.toNat % 2 ^ 8 = z.toNat := Nat.mod_eq_of_lt (by omega)
    rw [h2]; omega
  rw [this]
theorem bool_of (P : Program) {t : TypeId} (ht : P.underlying t = some .bool) (n : Nat) (cs : List Value) (y : DataW H × List MemPlace) (h : DataW.trod enc P W 0 (fun _ => true) true n t cs = some y) : ∃ b : Bool, cs = [.bool b] := by
  obtain ⟨b, rfl, _⟩ := DataW.trod_bool ht h
  exact ⟨b, rfl⟩

/-- A slice of elements of one cell, as it came in. -/
theorem row_of {P : Program} {β : Type} {V : β → Value} {t e : TypeId} (ht : P.underlying t = some (.slice e)) (hc : P.cellsOf e = 1)
    (hV : ∀ n cs y, DataW.trod enc P W 0 (fun _ => true) true n e cs = some y → ∃ b, cs = [V b]) {fuel : Nat} {cs : List Value} {x : DataW H × List MemPlace}
    (h : DataW.trod enc P W 0 (fun _ => true) true fuel t cs = some x) :
    ∃ (bs : List β) (v : Value), cs = [v] ∧ (∃ te, Sl (fun b => b < W.heap.size) te 1 W v bs.length (bs.map V)) ∧ bs.length ≤ Rows.uptoBulk x.1 := by
  rcases DataW.trod_slice ht h with ⟨rfl, rfl⟩ | ⟨a, len, cap, elems, rest, n, rfl, rfl, rfl, _, hl, hm, hlen, hel, _, _⟩
  · exact ⟨[], _, rfl, ⟨0, none, 0, rfl, Nat.le_refl _, rfl, .inl ⟨rfl, .inl rfl⟩⟩, Nat.zero_le _⟩
  · have key : ∀ i, i < len → ∃ b : β, W.cell? (a.add i) = some (V b) := by
      intro i hi
      have hE := hel i hi
      rw [hc, Nat.mul_one, List.getElem?_eq_getElem (show i < elems.length by omega)] at hE
      simp only [Option.bind_eq_some_iff] at hE
      obtain ⟨cs1, hc1, hy1⟩ := hE
      obtain ⟨b, rfl⟩ := hV _ _ _ hy1
      refine ⟨b, ?_⟩
      have := (cells_get hc1).2 0 (by omega)
      have e0 : (a.add i).add 0 = a.add i := by simp [Addr.add]
      rw [e0] at this; exact this
    let g : Fin len → β := fun i => Classical.choose (key i i.2)
    have hg : ∀ i (hi : i < len), W.cell? (a.add i) = some (V (g ⟨i, hi⟩)) := fun i hi => Classical.choose_spec (key i hi)
    have hgl : (List.ofFn g).length = len := by simp
    refine ⟨List.ofFn g, _, rfl, ?_, ?_⟩
    · rw [hgl]
      rcases Nat.eq_zero_or_pos len with h0 | h0
      · exact ⟨0, some a, cap, rfl, hl, by simp, .inl ⟨h0, .inr ⟨a, rfl⟩⟩⟩
      · have h00 := hg 0 h0
        have e0 : a.add 0 = a := by simp [Addr.add]
        rw [e0] at h00
        have hsp := World.cell?_spot h00
        obtain ⟨b, o, sp⟩ := a
        have hsp : sp = none := hsp
        subst hsp
        have hg' : ∀ i (hi : i < len), rdc W.heap[b]? (o + i) = some (V (g ⟨i, hi⟩)) := fun i hi => by
          rw [← cell_rdc, ← hg i hi, add_mk]
        have h1 := hg' 0 h0
        cases hb : W.heap[b]? with
        | none => rw [hb] at h1; cases h1
        | some ob =>
          rw [hb] at h1
          cases ob with
          | cells X te f =>
            rw [hb] at hg'
            have hX : ∀ i (hi : i < len), X[o + i]? = some (V (g ⟨i, hi⟩)) := fun i hi => hg' i hi
            refine ⟨te, some ⟨b, o, none⟩, cap, rfl, hl, by simp, .inr ⟨b, o, X, f, rfl, lt_at hb, hb, ?_, fun k hk => ?_⟩⟩
            · have := hX (len - 1) (by omega)
              rcases Nat.lt_or_ge (o + (len - 1)) X.size with h2 | h2
              · omega
              · rw [Array.getElem?_eq_none h2] at this; cases this
            · rw [hX k (by omega)]; simp [show k < len by omega]
          | _ => cases h1
    · rw [hgl]
      simp only [Rows.uptoBulk]
      have := bulk_len (elems.map (·.1) : List (DataW H))
      rw [List.length_map] at this
      omega

theorem take_drop7 {c0 c1 c2 c3 c4 c5 c6 : Value} : True := trivial
theorem rdn_get {b o n : Nat} {cs : List Value} (hl : cs.length = n) (hn : 0 < n) (h : ∀ k, k < n → W.cell? ⟨b, o + k, none⟩ = cs[k]?) : rdn W.heap[b]? o n = some cs.toArray ∧ b < W.heap.size := by
  have h' : ∀ k, k < n → rdc W.heap[b]? (o + k) = cs[k]? := fun k hk => by rw [← cell_rdc]; exact h k hk
  have h1 := h' 0 hn
  rw [List.getElem?_eq_getElem (by omega)] at h1
  cases hb : W.heap[b]? with
  | none => rw [hb] at h1; cases h1
  | some ob =>
    rw [hb] at h1 h'
    cases ob with
    | cells X te f =>
      have hX : ∀ k, k < n → X[o + k]? = cs[k]? := fun k hk => h' k hk
      have hs : o + n ≤ X.size := by
        have := hX (n - 1) (by omega)
        rw [List.getElem?_eq_getElem (by omega)] at this
        rcases Nat.lt_or_ge (o + (n - 1)) X.size with h2 | h2
        · omega
        · rw [Array.getElem?_eq_none h2] at this; cases this
      refine ⟨?_, lt_at hb⟩
      simp only [rdn]
      rw [if_pos hs]
      congr 1
      apply Array.ext'
      apply List.ext_getElem?
      intro j
      simp only [Array.toList_extract, List.extract_eq_take_drop, List.getElem?_take, List.getElem?_drop]
      have e : o + n - o = n := by omega
      rw [e]
      split
      · rename_i hj
        simpa using hX j hj
      · rename_i hj
        rw [List.getElem?_eq_none (by omega)]
    | _ => cases h1

/-- An operation of the script, as it came in. -/
theorem op_of {fuel : Nat} {cs : List Value} {x : DataW H × List MemPlace} (h : DataW.trod enc Tryd.prog W 0 (fun _ => true) true fuel 36 cs = some x) (hx : Rows.uptoBulk x.1 ≤ 1048576) :
    ∃ op pv kv, cs = [.int .u8 op.k, .string op.a, .string op.b, pv, .int .i64 op.n, .bool op.done, kv] ∧ OpV W.heap.size W op pv kv := by
  obtain ⟨xs, n, rfl, rfl, hl, hxl, hf⟩ := DataW.trod_struct Tryd.underlying36 h
  have hl7 : cs.length = 7 := by rw [hl]; kernel_rfl
  have c5 : Tryd.prog.cellsOf 5 = 1 := by kernel_rfl
  have c9 : Tryd.prog.cellsOf 9 = 1 := by kernel_rfl
  have c31 : Tryd.prog.cellsOf 31 = 1 := by kernel_rfl
  have c3 : Tryd.prog.cellsOf 3 = 1 := by kernel_rfl
  have c34 : Tryd.prog.cellsOf 34 = 2 := by kernel_rfl
  have c4 : Tryd.prog.cellsOf 4 = 1 := by kernel_rfl
  have c32 : Tryd.prog.cellsOf 32 = 1 := by kernel_rfl
  match cs, hl7 with
  | [k0, k1, k2, k3, k4, k5, k6], _ =>
    match xs, hxl with
    | [x0, x1, x2, x3, x4, x5], _ =>
      have f0 : DataW.trod enc Tryd.prog W 0 (fun _ => true) true n 5 (([k0, k1, k2, k3, k4, k5, k6].drop 0).take (Tryd.prog.cellsOf 5)) = some x0 := hf 0 _ rfl
      have f1 : DataW.trod enc Tryd.prog W 0 (fun _ => true) true n 9 (([k0, k1, k2, k3, k4, k5, k6].drop 1).take (Tryd.prog.cellsOf 9)) = some x1 := hf 1 _ rfl
      have f2 : DataW.trod enc Tryd.prog W 0 (fun _ => true) true n 9 (([k0, k1, k2, k3, k4, k5, k6].drop 2).take (Tryd.prog.cellsOf 9)) = some x2 := hf 2 _ rfl
      have f3 : DataW.trod enc Tryd.prog W 0 (fun _ => true) true n 31 (([k0, k1, k2, k3, k4, k5, k6].drop 3).take (Tryd.prog.cellsOf 31)) = some x3 := hf 3 _ rfl
      have f4 : DataW.trod enc Tryd.prog W 0 (fun _ => true) true n 3 (([k0, k1, k2, k3, k4, k5, k6].drop 4).take (Tryd.prog.cellsOf 3)) = some x4 := hf 4 _ rfl
      have f5 : DataW.trod enc Tryd.prog W 0 (fun _ => true) true n 34 (([k0, k1, k2, k3, k4, k5, k6].drop 5).take (Tryd.prog.cellsOf 34)) = some x5 := hf 5 _ rfl
      simp only [c5, c9, c31, c3, c34, List.drop_zero, List.drop_succ_cons, List.take_succ_cons, List.take_zero, List.getElem?_cons_zero, List.getElem?_cons_succ] at f0 f1 f2 f3 f4 f5
      obtain ⟨y0, e0⟩ := u8_of Tryd.prog Tryd.underlying5 _ _ _ f0
      obtain ⟨s1, e1, q1, b1⟩ := DataW.trod_string Tryd.underlying9 f1
      obtain ⟨s2, e2, q2, b2⟩ := DataW.trod_string Tryd.underlying9 f2
      obtain ⟨bs, pv, e3, hbs, hbl⟩ := row_of Tryd.underlying31 c5 (u8_of Tryd.prog Tryd.underlying5) f3
      obtain ⟨z4, e4, _, hw4⟩ := DataW.trod_int Tryd.underlying3 f4
      obtain ⟨ys, m, _, hx5, _, hyl, hg⟩ := DataW.trod_struct Tryd.underlying34 f5
      match ys, hyl with
      | [y5, y6], _ =>
        have g0 : DataW.trod enc Tryd.prog W 0 (fun _ => true) true m 4 (([k5, k6].drop 0).take (Tryd.prog.cellsOf 4)) = some y5 := hg 0 _ rfl
        have g1 : DataW.trod enc Tryd.prog W 0 (fun _ => true) true m 32 (([k5, k6].drop 1).take (Tryd.prog.cellsOf 32)) = some y6 := hg 1 _ rfl
        simp only [c4, c32, List.drop_zero, List.drop_succ_cons, List.take_succ_cons, List.take_zero, List.getElem?_cons_zero, List.getElem?_cons_succ] at g0 g1
        obtain ⟨b5, e5⟩ := bool_of Tryd.prog Tryd.underlying4 _ _ _ g0
        obtain ⟨ks, kv, e6, hks, hkl⟩ := row_of Tryd.underlying32 c4 (bool_of Tryd.prog Tryd.underlying4) g1
        simp only [List.cons.injEq, and_true] at e0 e1 e2 e3 e4 e5 e6
        subst e0; subst e1; subst e2; subst e3; subst e4; subst e5; subst e6
        simp only [Rows.uptoBulk, Rows.uptoBulkAll, List.map_cons, List.map_nil, hx5, q1, q2] at hx
        have hb4 : z4 < 2 ^ 63 := by simp [Lit.wf, IntKind.min, IntKind.max, IntKind.signed, IntKind.bits] at hw4; omega
        have l1 : s1.data.toList.length = s1.size := rfl
        have l2 : s2.data.toList.length = s2.size := rfl
        rw [l1, l2] at hx
        refine ⟨⟨y0.toNat, s1, s2, bs, z4, b5, ks⟩, k3, k6, rfl, hbs, hks, ?_, ?_, ?_, ?_, hb4⟩
        · show s1.size < _; omega
        · show s2.size < _; omega
        · show bs.length < 2 ^ 36; omega
        · show ks.length < 2 ^ 36; omega
end
end Go.Proofs.YtppefblkmgihoaaDoor
