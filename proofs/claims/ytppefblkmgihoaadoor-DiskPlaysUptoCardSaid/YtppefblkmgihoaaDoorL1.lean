/- The order of names, and what put comes to in a sorted list: plain Lean. -/
import Derived.Test.YtppefblkmgihoaaDoorR10
set_option linter.unusedVariables false
set_option linter.unusedSimpArgs false
namespace Go.Proofs.YtppefblkmgihoaaDoor
open Go.Sh

theorem less_irrefl : ∀ x : List UInt8, Op.bytesLess x x = false
  | [] => rfl
  | a :: x => by simp [Op.bytesLess, less_irrefl x]
theorem less_trans : ∀ x y z : List UInt8, Op.bytesLess x y = true → Op.bytesLess y z = true → Op.bytesLess x z = true
  | x, y, [], _, h => by cases y <;> simp [Op.bytesLess] at h
  | x, [], c :: z, h, _ => by cases x <;> simp [Op.bytesLess] at h
  | [], b :: y, c :: z, _, _ => rfl
  | a :: x, b :: y, c :: z, h1, h2 => by
    simp only [Op.bytesLess, Bool.or_eq_true, Bool.and_eq_true, decide_eq_true_eq, beq_iff_eq] at h1 h2 ⊢
    rcases h1 with h1 | ⟨rfl, h1⟩
    · rcases h2 with h2 | ⟨rfl, h2⟩
      · exact .inl (UInt8.lt_trans h1 h2)
      · exact .inl h1
    · rcases h2 with h2 | ⟨rfl, h2⟩
      · exact .inl h2
      · exact .inr ⟨rfl, less_trans x y z h1 h2⟩
theorem less_total : ∀ x y : List UInt8, Op.bytesLess x y = false → Op.bytesLess y x = false → x = y
  | [], [], _, _ => rfl
  | [], b :: y, h, _ => by simp [Op.bytesLess] at h
  | a :: x, [], _, h => by simp [Op.bytesLess] at h
  | a :: x, b :: y, h1, h2 => by
    simp only [Op.bytesLess, Bool.or_eq_false_iff, Bool.and_eq_false_iff, decide_eq_false_iff_not, beq_eq_false_iff_ne] at h1 h2
    have hab : a = b := by
      have h3 := h1.1; have h4 := h2.1
      apply UInt8.toNat_inj.1
      have h5 : ¬ a.toNat < b.toNat := h3
      have h6 : ¬ b.toNat < a.toNat := h4
      omega
    subst hab
    have e := less_total x y (h1.2.resolve_left fun h => h rfl) (h2.2.resolve_left fun h => h rfl)
    rw [e]
theorem slt_irrefl (a : ByteArray) : slt a a = false := less_irrefl _
theorem slt_trans {a b c : ByteArray} (h1 : slt a b = true) (h2 : slt b c = true) : slt a c = true := less_trans _ _ _ h1 h2
theorem slt_total {a b : ByteArray} (h1 : slt a b = false) (h2 : slt b a = false) : a = b := by
  have := less_total _ _ h1 h2
  cases a; cases b; simp at this; simp [this]
theorem slt_ne {a b : ByteArray} (h : slt a b = true) : a ≠ b := by rintro rfl; rw [slt_irrefl] at h; cases h

/-- In the names' order. -/
def Files.sorted (l : Files) : Prop := l.Pairwise fun p q => slt p.1 q.1 = true
theorem Files.sorted.nodup {l : Files} (h : l.sorted) : (l.map (·.1)).Nodup := by
  unfold List.Nodup
  rw [List.pairwise_map]
  exact h.imp fun h => slt_ne h
def putFin (f : ByteArray × List Sec) (s : Bool × Files) : Files := if s.1 then s.2 else s.2 ++ [f]
theorem put_done (f : ByteArray × List Sec) : ∀ (l acc : Files), putFin f (l.foldl (putStep f) (true, acc)) = acc ++ l.filter fun p => decide (p.1 ≠ f.1) := by
  intro l
  induction l with
  | nil => intro acc; simp [putFin]
  | cons y r ih =>
    intro acc
    rw [List.foldl_cons]
    by_cases hy : y.1 = f.1
    · have : putStep f (true, acc) y = (true, acc) := by simp [putStep, hy]
      rw [this, ih, List.filter_cons_of_neg (by simpa using hy)]
    · have : putStep f (true, acc) y = (true, acc ++ [y]) := by simp [putStep, hy]
      rw [this, ih, List.filter_cons_of_pos (by simpa using hy)]; simp
theorem put_run (f : ByteArray × List Sec) : ∀ (l acc : Files), l.sorted → putFin f (l.foldl (putStep f) (false, acc)) = acc ++ (l.filter (fun p => slt p.1 f.1) ++ f :: l.filter fun p => !slt p.1 f.1 && decide (p.1 ≠ f.1)) := by
  intro l
  induction l with
  | nil => intro acc _; simp [putFin]
  | cons y r ih =>
    intro acc hs
    obtain ⟨h1, h2⟩ := List.pairwise_cons.1 hs
    rw [List.foldl_cons]
    cases hy : slt y.1 f.1 with
    | true =>
      have hne : ¬ y.1 = f.1 := slt_ne hy
      have : putStep f (false, acc) y = (false, acc ++ [y]) := by simp [putStep, hy, hne]
      rw [this, ih _ h2, List.filter_cons_of_pos (by simpa using hy), List.filter_cons_of_neg (by simp [hy])]
      simp
    | false =>
      have hge : ∀ z ∈ r, slt z.1 f.1 = false := fun z hz => by
        cases hzf : slt z.1 f.1 with
        | false => rfl
        | true => have := slt_trans (h1 z hz) hzf; rw [hy] at this; cases this
      have e1 : r.filter (fun p => slt p.1 f.1) = [] := List.filter_eq_nil_iff.2 fun z hz => by simp [hge z hz]
      have e2 : r.filter (fun p => !slt p.1 f.1 && decide (p.1 ≠ f.1)) = r.filter fun p => decide (p.1 ≠ f.1) := List.filter_congr fun z hz => by simp [hge z hz]
      rw [List.filter_cons_of_neg (by simp [hy]), e1, List.nil_append]
      by_cases hyf : y.1 = f.1
      · have : putStep f (false, acc) y = (true, acc ++ [f]) := by simp [putStep, hyf, slt_irrefl]
        rw [this, put_done, List.filter_cons_of_neg (by simp [hyf]), e2]; simp
      · have : putStep f (false, acc) y = (true, acc ++ [f] ++ [y]) := by simp [putStep, hyf, hy]
        rw [this, put_done, List.filter_cons_of_pos (by simp [hyf, hy]), e2]; simp
theorem put_eq {l : Files} (h : l.sorted) (f : ByteArray × List Sec) : l.put f = l.filter (fun p => slt p.1 f.1) ++ f :: l.filter fun p => !slt p.1 f.1 && decide (p.1 ≠ f.1) := by
  have := put_run f l [] h
  rw [List.nil_append] at this
  exact this
theorem put_sorted {l : Files} (h : l.sorted) (f : ByteArray × List Sec) : (l.put f).sorted := by
  rw [put_eq h]
  unfold Files.sorted
  rw [List.pairwise_append]
  refine ⟨List.Pairwise.filter _ h, ?_, ?_⟩
  · rw [List.pairwise_cons]
    refine ⟨fun z hz => ?_, List.Pairwise.filter _ h⟩
    have := (List.mem_filter.1 hz).2
    simp only [Bool.and_eq_true, Bool.not_eq_true', decide_eq_true_eq] at this
    cases hfz : slt f.1 z.1 with
    | true => rfl
    | false => exact absurd (slt_total this.1 hfz) this.2
  · intro p hp q hq
    have hp' : slt p.1 f.1 = true := by simpa using (List.mem_filter.1 hp).2
    rcases List.mem_cons.1 hq with rfl | hq
    · exact hp'
    · have := (List.mem_filter.1 hq).2
      simp only [Bool.and_eq_true, Bool.not_eq_true', decide_eq_true_eq] at this
      cases hfq : slt f.1 q.1 with
      | true => exact slt_trans hp' hfq
      | false => exact absurd (slt_total this.1 hfq) this.2
theorem drop_sorted {l : Files} (h : l.sorted) (a : ByteArray) : (l.drop a).sorted := List.Pairwise.filter _ h
theorem drop_adel {l : Files} (h : (l.map (·.1)).Nodup) (a : ByteArray) : l.drop a = adel l a := by
  induction l with
  | nil => rfl
  | cons p r ih =>
    obtain ⟨k, v⟩ := p
    simp only [List.map_cons, List.nodup_cons] at h
    unfold Files.drop at *
    simp only [adel]
    by_cases hk : a = k
    · subst hk
      rw [if_pos rfl, List.filter_cons_of_neg (by simp), List.filter_eq_self.2]
      intro z hz
      have : z.1 ≠ a := fun e => h.1 (List.mem_map.2 ⟨z, hz, e⟩)
      simpa using this
    · rw [if_neg hk, List.filter_cons_of_pos (by simpa using fun e => hk e.symm), ih h.2]
end Go.Proofs.YtppefblkmgihoaaDoor
