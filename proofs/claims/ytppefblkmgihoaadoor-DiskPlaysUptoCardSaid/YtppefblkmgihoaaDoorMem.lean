/- Memory: frames, slices that read as lists, append. Nothing of any one program stands here. -/
import Derived.Test.YtppefblkmgihoaaDoorEv
set_option linter.unusedVariables false
set_option linter.unusedSimpArgs false
namespace Go.Sh
open Go

theorem lt_at {w : World} {b : Nat} {o : Obj} (h : w.heap[b]? = some o) : b < w.heap.size := by
  rcases Nat.lt_or_ge b w.heap.size with h1 | h1
  · exact h1
  · rw [Array.getElem?_eq_none h1] at h; cases h
theorem size_alloc (w : World) (o : Obj) : (w.alloc o).heap.size = w.heap.size + 1 := by show (w.heap.push o).size = _; simp
theorem size_drew (w : World) : w.drew.heap.size = w.heap.size := rfl

/-! ### Frames -/
/-- Of the blocks below N, all but those of S are as they were. -/
def Fr (N : Nat) (S : Nat → Prop) (w w' : World) : Prop := w.heap.size ≤ w'.heap.size ∧ (∀ b, b < N → ¬ S b → w'.heap[b]? = w.heap[b]?) ∧ w'.os = w.os ∧ w'.tape = w.tape ∧ w'.output = w.output
def No : Nat → Prop := fun _ => False
theorem no_not {b : Nat} : ¬ No b := fun h => h
theorem Fr.refl {N : Nat} {S : Nat → Prop} {w : World} : Fr N S w w := ⟨Nat.le_refl _, fun _ _ _ => rfl, rfl, rfl, rfl⟩
theorem Fr.trans {N : Nat} {S : Nat → Prop} {w w' w'' : World} (h : Fr N S w w') (h' : Fr N S w' w'') : Fr N S w w'' := ⟨Nat.le_trans h.1 h'.1, fun b hb hs => (h'.2.1 b hb hs).trans (h.2.1 b hb hs), h'.2.2.1.trans h.2.2.1, h'.2.2.2.1.trans h.2.2.2.1, h'.2.2.2.2.trans h.2.2.2.2⟩
theorem Fr.mono {N M : Nat} {S T : Nat → Prop} {w w' : World} (h : Fr N S w w') (hN : M ≤ N) (hS : ∀ b, b < M → S b → T b) : Fr M T w w' := ⟨h.1, fun b hb ht => h.2.1 b (Nat.lt_of_lt_of_le hb hN) fun hs => ht (hS b hb hs), h.2.2⟩
theorem Fr.no {N M : Nat} {T : Nat → Prop} {w w' : World} (h : Fr N No w w') (hN : M ≤ N) : Fr M T w w' := h.mono hN fun _ _ h => h.elim
theorem Fr.alloc {N : Nat} {S : Nat → Prop} {w w' : World} {o : Obj} (h : Fr N S w w') (hN : N ≤ w'.heap.size) : Fr N S w (w'.alloc o) :=
  ⟨by rw [size_alloc]; have := h.1; omega, fun b hb hs => by rw [alloc_lt (by omega)]; exact h.2.1 b hb hs, h.2.2⟩
theorem Fr.put {N : Nat} {S : Nat → Prop} {w w' : World} {c : Nat} {o : Obj} (h : Fr N S w w') (hc : S c ∨ N ≤ c) : Fr N S w (w'.put c o) :=
  ⟨by rw [size_put]; exact h.1, fun b hb hs => by
    rw [put_ne (by rintro rfl; rcases hc with hc | hc; exact hs hc; omega)]; exact h.2.1 b hb hs, h.2.2⟩
theorem Fr.drew {N : Nat} {S : Nat → Prop} {w w' : World} (h : Fr N S w w') : Fr N S w w'.drew := h
theorem Fr.at {N : Nat} {S : Nat → Prop} {w w' : World} {b : Nat} {o : Obj} (h : Fr N S w w') (hb : w.heap[b]? = some o) (hN : b < N) (hS : ¬ S b) : w'.heap[b]? = some o := (h.2.1 b hN hS).trans hb
/-- Two frames, the second one of a younger world. -/
theorem Fr.then {N M : Nat} {S T : Nat → Prop} {w w' w'' : World} (h : Fr N S w w') (h' : Fr M T w' w'') (hN : N ≤ M) (hT : ∀ b, b < N → T b → S b) : Fr N S w w'' := h.trans (h'.mono hN hT)

/-! ### Slices that read as lists of cells -/
/-- A slice of n elements of sz cells each, in a block of type e that lies as B says. -/
def Sl (B : Nat → Prop) (e sz : Nat) (w : World) (v : Value) (n : Nat) (cs : List Value) : Prop :=
  ∃ A c, v = .slice A n c ∧ n ≤ c ∧ cs.length = n * sz ∧ ((n = 0 ∧ (A = none ∨ ∃ a, A = some a)) ∨ ∃ b o X f, A = some ⟨b, o, none⟩ ∧ B b ∧ w.heap[b]? = some (.cells X e f) ∧ o + n * sz ≤ X.size ∧ ∀ k, k < n * sz → X[o + k]? = cs[k]?)
/-- One that nobody else has: its room is there, and may be written. -/
def Ow (N e sz : Nat) (w : World) (v : Value) (n : Nat) (cs : List Value) : Prop :=
  ∃ A c, v = .slice A n c ∧ n ≤ c ∧ cs.length = n * sz ∧ ((A = none ∧ c = 0) ∨ ∃ b o X, A = some ⟨b, o, none⟩ ∧ N ≤ b ∧ w.heap[b]? = some (.cells X e (0, 0)) ∧ o + c * sz ≤ X.size ∧ ∀ k, k < n * sz → X[o + k]? = cs[k]?)

theorem Ow.nil (N e sz : Nat) (w : World) : Ow N e sz w (.slice none 0 0) 0 [] := ⟨none, 0, rfl, Nat.le_refl _, by simp, .inl ⟨rfl, rfl⟩⟩
theorem Ow.sl {N e sz : Nat} {w : World} {v : Value} {n : Nat} {cs : List Value} (h : Ow N e sz w v n cs) : Sl (fun b => N ≤ b) e sz w v n cs := by
  obtain ⟨A, c, rfl, hn, hl, h | ⟨b, o, X, rfl, hN, hb, hs, hk⟩⟩ := h
  · obtain ⟨rfl, rfl⟩ := h; exact ⟨none, 0, rfl, hn, hl, .inl ⟨by omega, .inl rfl⟩⟩
  · exact ⟨_, c, rfl, hn, hl, .inr ⟨b, o, X, (0, 0), rfl, hN, hb, Nat.le_trans (Nat.add_le_add_left (Nat.mul_le_mul_right _ hn) _) hs, hk⟩⟩
theorem Ow.mono {N M e sz : Nat} {w : World} {v : Value} {n : Nat} {cs : List Value} (h : Ow N e sz w v n cs) (hM : M ≤ N) : Ow M e sz w v n cs := by
  obtain ⟨A, c, rfl, hn, hl, h | ⟨b, o, X, rfl, hN, hb, hs, hk⟩⟩ := h
  · exact ⟨A, c, rfl, hn, hl, .inl h⟩
  · exact ⟨_, c, rfl, hn, hl, .inr ⟨b, o, X, rfl, Nat.le_trans hM hN, hb, hs, hk⟩⟩
theorem Sl.length {B : Nat → Prop} {e sz : Nat} {w : World} {v : Value} {n : Nat} {cs : List Value} (h : Sl B e sz w v n cs) : cs.length = n * sz := by
  obtain ⟨A, c, rfl, hn, hl, h⟩ := h; exact hl
theorem Sl.shape {B : Nat → Prop} {e sz : Nat} {w : World} {v : Value} {n : Nat} {cs : List Value} (h : Sl B e sz w v n cs) : ∃ A c, v = .slice A n c ∧ n ≤ c := by
  obtain ⟨A, c, rfl, hn, hl, h⟩ := h; exact ⟨A, c, rfl, hn⟩
theorem Sl.mono {B B' : Nat → Prop} {e sz : Nat} {w : World} {v : Value} {n : Nat} {cs : List Value} (h : Sl B e sz w v n cs) (hB : ∀ b, B b → b < w.heap.size → B' b) : Sl B' e sz w v n cs := by
  obtain ⟨A, c, rfl, hn, hl, h | ⟨b, o, X, f, rfl, hN, hb, hs, hk⟩⟩ := h
  · exact ⟨A, c, rfl, hn, hl, .inl h⟩
  · exact ⟨_, c, rfl, hn, hl, .inr ⟨b, o, X, f, rfl, hB b hN (lt_at hb), hb, hs, hk⟩⟩
/-- What holds of the block's number may be asked of the block's kind, too. -/
theorem Sl.fr {B : Nat → Prop} {e sz : Nat} {w w' : World} {v : Value} {n : Nat} {cs : List Value} {N : Nat} {S : Nat → Prop} (h : Sl B e sz w v n cs) (hf : Fr N S w w') (hB : ∀ b X f, B b → w.heap[b]? = some (.cells X e f) → b < N ∧ ¬ S b) : Sl B e sz w' v n cs := by
  obtain ⟨A, c, rfl, hn, hl, h | ⟨b, o, X, f, rfl, hN, hb, hs, hk⟩⟩ := h
  · exact ⟨A, c, rfl, hn, hl, .inl h⟩
  · exact ⟨_, c, rfl, hn, hl, .inr ⟨b, o, X, f, rfl, hN, hf.at hb (hB b X f hN hb).1 (hB b X f hN hb).2, hs, hk⟩⟩
theorem Sl.young {B : Nat → Prop} {e sz : Nat} {w w' : World} {v : Value} {n : Nat} {cs : List Value} (h : Sl B e sz w v n cs) (hf : Fr w.heap.size No w w') : Sl B e sz w' v n cs := h.fr hf fun b X f _ hb => ⟨lt_at hb, no_not⟩
theorem Ow.fr {N e sz : Nat} {w w' : World} {v : Value} {n : Nat} {cs : List Value} {S : Nat → Prop} (h : Ow N e sz w v n cs) (hf : Fr w.heap.size S w w') (hB : ∀ b X, N ≤ b → w.heap[b]? = some (.cells X e (0, 0)) → ¬ S b) : Ow N e sz w' v n cs := by
  obtain ⟨A, c, rfl, hn, hl, h | ⟨b, o, X, rfl, hN, hb, hs, hk⟩⟩ := h
  · exact ⟨A, c, rfl, hn, hl, .inl h⟩
  · exact ⟨_, c, rfl, hn, hl, .inr ⟨b, o, X, rfl, hN, hf.at hb (lt_at hb) (hB b X hN hb), hs, hk⟩⟩

/-- A slice whose cells may be written. -/
def Sl0 (B : Nat → Prop) (e sz : Nat) (w : World) (v : Value) (n : Nat) (cs : List Value) : Prop :=
  ∃ A c, v = .slice A n c ∧ n ≤ c ∧ cs.length = n * sz ∧ ((n = 0 ∧ (A = none ∨ ∃ a, A = some a)) ∨ ∃ b o X, A = some ⟨b, o, none⟩ ∧ B b ∧ w.heap[b]? = some (.cells X e (0, 0)) ∧ o + n * sz ≤ X.size ∧ ∀ k, k < n * sz → X[o + k]? = cs[k]?)
theorem Sl0.sl {B : Nat → Prop} {e sz : Nat} {w : World} {v : Value} {n : Nat} {cs : List Value} (h : Sl0 B e sz w v n cs) : Sl B e sz w v n cs := by
  obtain ⟨A, c, rfl, hn, hl, h | ⟨b, o, X, rfl, hN, hb, hs, hk⟩⟩ := h
  · exact ⟨A, c, rfl, hn, hl, .inl h⟩
  · exact ⟨_, c, rfl, hn, hl, .inr ⟨b, o, X, _, rfl, hN, hb, hs, hk⟩⟩
theorem Ow.sl0 {N e sz : Nat} {w : World} {v : Value} {n : Nat} {cs : List Value} (h : Ow N e sz w v n cs) : Sl0 (fun b => N ≤ b) e sz w v n cs := by
  obtain ⟨A, c, rfl, hn, hl, h | ⟨b, o, X, rfl, hN, hb, hs, hk⟩⟩ := h
  · obtain ⟨rfl, rfl⟩ := h; exact ⟨none, 0, rfl, hn, hl, .inl ⟨by omega, .inl rfl⟩⟩
  · exact ⟨_, c, rfl, hn, hl, .inr ⟨b, o, X, rfl, hN, hb, Nat.le_trans (Nat.add_le_add_left (Nat.mul_le_mul_right _ hn) _) hs, hk⟩⟩
theorem Sl0.mono {B B' : Nat → Prop} {e sz : Nat} {w : World} {v : Value} {n : Nat} {cs : List Value} (h : Sl0 B e sz w v n cs) (hB : ∀ b, B b → b < w.heap.size → B' b) : Sl0 B' e sz w v n cs := by
  obtain ⟨A, c, rfl, hn, hl, h | ⟨b, o, X, rfl, hN, hb, hs, hk⟩⟩ := h
  · exact ⟨A, c, rfl, hn, hl, .inl h⟩
  · exact ⟨_, c, rfl, hn, hl, .inr ⟨b, o, X, rfl, hB b hN (lt_at hb), hb, hs, hk⟩⟩
theorem Sl0.fr {B : Nat → Prop} {e sz : Nat} {w w' : World} {v : Value} {n : Nat} {cs : List Value} {N : Nat} {S : Nat → Prop} (h : Sl0 B e sz w v n cs) (hf : Fr N S w w') (hB : ∀ b X, B b → w.heap[b]? = some (.cells X e (0, 0)) → b < N ∧ ¬ S b) : Sl0 B e sz w' v n cs := by
  obtain ⟨A, c, rfl, hn, hl, h | ⟨b, o, X, rfl, hN, hb, hs, hk⟩⟩ := h
  · exact ⟨A, c, rfl, hn, hl, .inl h⟩
  · exact ⟨_, c, rfl, hn, hl, .inr ⟨b, o, X, rfl, hN, hf.at hb (hB b X hN hb).1 (hB b X hN hb).2, hs, hk⟩⟩
theorem Sl0.shape {B : Nat → Prop} {e sz : Nat} {w : World} {v : Value} {n : Nat} {cs : List Value} (h : Sl0 B e sz w v n cs) : ∃ A c, v = .slice A n c ∧ n ≤ c := h.sl.shape
theorem Sl0.at {B : Nat → Prop} {e sz : Nat} {w : World} {v : Value} {n : Nat} {cs : List Value} (h : Sl0 B e sz w v n cs) {i : Nat} (hi : i < n) :
    ∃ b o c X, v = .slice (some ⟨b, o, none⟩) n c ∧ B b ∧ w.heap[b]? = some (.cells X e (0, 0)) ∧ o + n * sz ≤ X.size ∧ ∀ k, k < n * sz → X[o + k]? = cs[k]? := by
  obtain ⟨A, c, rfl, hn, hl, h | ⟨b, o, X, rfl, hN, hb, hs, hk⟩⟩ := h
  · exact absurd h.1 (by omega)
  · exact ⟨b, o, c, X, rfl, hN, hb, hs, hk⟩
/-- Where an element lies. -/
theorem Sl.at {B : Nat → Prop} {e sz : Nat} {w : World} {v : Value} {n : Nat} {cs : List Value} (h : Sl B e sz w v n cs) {i : Nat} (hi : i < n) :
    ∃ b o c X f, v = .slice (some ⟨b, o, none⟩) n c ∧ B b ∧ w.heap[b]? = some (.cells X e f) ∧ o + n * sz ≤ X.size ∧ ∀ k, k < n * sz → X[o + k]? = cs[k]? := by
  obtain ⟨A, c, rfl, hn, hl, h | ⟨b, o, X, f, rfl, hN, hb, hs, hk⟩⟩ := h
  · exact absurd h.1 (by omega)
  · exact ⟨b, o, c, X, f, rfl, hN, hb, hs, hk⟩
theorem mul_lt {n sz i k : Nat} (hi : i < n) (hk : k < sz) : i * sz + k < n * sz := by
  have : (i + 1) * sz ≤ n * sz := Nat.mul_le_mul_right _ hi
  rw [Nat.add_mul] at this; omega
/-- An element's cell, read. -/
theorem rdc_el {X : Array Value} {e : TypeId} {f : Nat × Nat} {cs : List Value} {n sz o i k : Nat} (hX : ∀ k, k < n * sz → X[o + k]? = cs[k]?) (hi : i < n) (hk : k < sz) : X[o + i * sz + k]? = cs[i * sz + k]? := by
  rw [Nat.add_assoc]; exact hX _ (mul_lt hi hk)
/-- An element, read whole. -/
theorem rdn_el {w : World} {b : Nat} {X : Array Value} {e : TypeId} {f : Nat × Nat} {cs : List Value} {n sz o i : Nat} (hb : w.heap[b]? = some (.cells X e f)) (hs : o + n * sz ≤ X.size) (hX : ∀ k, k < n * sz → X[o + k]? = cs[k]?) (hl : cs.length = n * sz) (hi : i < n) :
    rdn w.heap[b]? (o + i * sz) sz = some ((cs.drop (i * sz)).take sz).toArray := by
  have h1 : (i + 1) * sz ≤ n * sz := Nat.mul_le_mul_right _ hi
  rw [Nat.add_mul, Nat.one_mul] at h1
  rw [hb]
  simp only [rdn]
  rw [if_pos (by omega)]
  congr 1
  apply Array.ext'
  apply List.ext_getElem?
  intro j
  simp only [Array.toList_extract, List.extract_eq_take_drop, List.getElem?_take, List.getElem?_drop]
  have : o + i * sz + sz - (o + i * sz) = sz := by omega
  rw [this]
  split
  · rename_i hj
    have := hX (i * sz + j) (by omega)
    rw [← Nat.add_assoc] at this
    simpa using this
  · rfl
/-- The i-th of rows of equal length. -/
theorem flat_row {α : Type} (f : α → List Value) {sz : Nat} : ∀ (l : List α), (∀ x ∈ l, (f x).length = sz) → ∀ i, (hi : i < l.length) → ((l.flatMap f).drop (i * sz)).take sz = f l[i] := by
  intro l
  induction l with
  | nil => intro _ i hi; simp at hi
  | cons x r ih =>
    intro hf i hi
    have hx : (f x).length = sz := hf x (by simp)
    cases i with
    | zero => simp [← hx]
    | succ i =>
      rw [List.flatMap_cons, Nat.add_mul, Nat.one_mul, Nat.add_comm, List.drop_append, List.drop_eq_nil_of_le (by omega), List.nil_append]
      rw [show sz + i * sz - (f x).length = i * sz by omega]
      exact ih (fun y hy => hf y (by simp [hy])) i (by simpa using hi)
theorem flat_len {α : Type} (f : α → List Value) {sz : Nat} : ∀ (l : List α), (∀ x ∈ l, (f x).length = sz) → (l.flatMap f).length = l.length * sz := by
  intro l
  induction l with
  | nil => intro _; simp
  | cons x r ih =>
    intro hf
    rw [List.flatMap_cons, List.length_append, ih (fun y hy => hf y (by simp [hy])), hf x (by simp), List.length_cons, Nat.add_mul]
    omega

theorem flat_get {α : Type} (f : α → List Value) {sz : Nat} {l : List α} (hf : ∀ x ∈ l, (f x).length = sz) {i k : Nat} (hi : i < l.length) (hk : k < sz) : (l.flatMap f)[i * sz + k]? = (f l[i])[k]? := by
  rw [← flat_row f l hf i hi, List.getElem?_take, if_pos hk, List.getElem?_drop]
theorem flat_set_get {α : Type} (f : α → List Value) {sz : Nat} {l : List α} (hf : ∀ x ∈ l, (f x).length = sz) {i : Nat} {y : α} (hi : i < l.length) (hy : (f y).length = sz) (q : Nat) (hq : q < l.length * sz) :
    ((l.set i y).flatMap f)[q]? = if q / sz = i then (f y)[q % sz]? else (l.flatMap f)[q]? := by
  have hsz : 0 < sz := by
    rcases Nat.eq_zero_or_pos sz with h | h
    · subst h; simp at hq
    · exact h
  have e : q = q / sz * sz + q % sz := by rw [Nat.mul_comm]; exact (Nat.div_add_mod q sz).symm
  have h1 : q / sz < l.length := Nat.div_lt_of_lt_mul (by rw [Nat.mul_comm]; exact hq)
  have hf' : ∀ x ∈ l.set i y, (f x).length = sz := fun x hx => by
    rcases List.mem_or_eq_of_mem_set hx with hx | rfl
    · exact hf x hx
    · exact hy
  have := flat_get f hf' (i := q / sz) (k := q % sz) (by simpa using h1) (Nat.mod_lt _ hsz)
  have h2 := flat_get f hf (i := q / sz) (k := q % sz) h1 (Nat.mod_lt _ hsz)
  rw [← e] at this h2
  rw [this, h2]
  split
  · rename_i hqi
    congr 2
    simp [hqi]
  · rename_i hqi
    congr 2
    rw [List.getElem_set_ne (Ne.symm hqi)]

theorem set_mid {α : Type} (f : α → α) {l : List α} {i : Nat} (hi : i < l.length) : ((l.take i).map f ++ l.drop i).set i (f l[i]) = (l.take (i + 1)).map f ++ l.drop (i + 1) := by
  have hl : ((l.take i).map f).length = i := by simp; omega
  rw [List.drop_eq_getElem_cons hi, List.set_append_right _ _ (by omega), List.take_succ_eq_append_getElem hi, List.map_append, List.append_assoc]
  rw [show i - ((l.take i).map f).length = 0 by omega]; rfl
theorem get_mid {α : Type} (f : α → α) {l : List α} {i : Nat} (hi : i < l.length) : ((l.take i).map f ++ l.drop i)[i]? = some l[i] := by
  have hl : ((l.take i).map f).length = i := by simp; omega
  rw [List.getElem?_append_right (by omega), hl]; simp [hi]
theorem len_mid {α : Type} (f : α → α) {l : List α} {i : Nat} (hi : i ≤ l.length) : ((l.take i).map f ++ l.drop i).length = l.length := by simp; omega
theorem rds_sl {B : Nat → Prop} {e sz : Nat} {w : World} {A : Option Addr} {n c : Nat} {cs : List Value} (h : Sl B e sz w (.slice A n c) n cs) : rds w A (n * sz) = some cs.toArray := by
  obtain ⟨A', c', he, hn, hl, h | ⟨b, o, X, f, rfl, hN, hb, hs, hk⟩⟩ := h
  · obtain ⟨rfl, _⟩ := h
    rw [Nat.zero_mul] at hl ⊢
    rw [List.eq_nil_of_length_eq_zero hl]; rfl
  · injection he with h1 h2 h3
    subst h1
    unfold rds
    split
    · rename_i h0
      rw [h0] at hl
      rw [List.eq_nil_of_length_eq_zero hl]
    · show rdn w.heap[b]? o (n * sz) = _
      rw [hb]
      simp only [rdn]
      rw [if_pos hs]
      congr 1
      apply Array.ext'
      apply List.ext_getElem?
      intro j
      simp only [Array.toList_extract, List.extract_eq_take_drop, List.getElem?_take, List.getElem?_drop]
      have : o + n * sz - o = n * sz := by omega
      rw [this]
      split
      · rename_i hj
        simpa using hk j hj
      · rename_i hj
        rw [List.getElem?_eq_none (by omega)]
theorem src_sl {B : Nat → Prop} {e sz : Nat} {w : World} {v : Value} {n : Nat} {cs : List Value} (h : Sl B e sz w v n cs) : src w sz v = some (n, cs.toArray) := by
  obtain ⟨A, c, rfl, hn⟩ := h.shape
  simp only [src, rds_sl h]

/-! ### Writing -/
theorem splice_size {X : Array Value} {i : Nat} {xs : Array Value} (h : i + xs.size ≤ X.size) : (splice X i xs).size = X.size := by
  simp [splice]; omega
theorem splice_get {X : Array Value} {i : Nat} {xs : Array Value} (h : i + xs.size ≤ X.size) (j : Nat) : (splice X i xs)[j]? = if j < i then X[j]? else if j < i + xs.size then xs[j - i]? else X[j]? := by
  simp only [splice, List.getElem?_toArray]
  rw [List.append_assoc, List.getElem?_append]
  simp only [List.length_take, Array.length_toList]
  rw [Nat.min_eq_left (by omega)]
  split
  · rename_i hj; simp [List.getElem?_take, hj]
  · rename_i hj
    rw [List.getElem?_append]
    simp only [Array.length_toList]
    split
    · rename_i hj2; rw [if_pos (by omega)]; simp
    · rename_i hj2
      rw [if_neg (by omega), List.getElem?_drop]
      rw [show i + xs.size + (j - i - xs.size) = j by omega]; simp
theorem growBy_le (L : Nat) : ∀ (k c : Nat), c ≤ 2 * L + 512 → Builtin.growBy L k c ≤ 2 * L + 512 := by
  intro k
  induction k with
  | zero => intro c h; exact h
  | succ k ih =>
    intro c h
    simp only [Builtin.growBy]
    split
    · exact h
    · exact ih _ (by omega)
theorem nextcap_le {L c : Nat} (h : c < L) : Builtin.nextslicecap L c ≤ 2 * L + 512 := by
  unfold Builtin.nextslicecap
  split
  · omega
  · split
    · omega
    · exact growBy_le _ _ _ (by omega)
theorem zeroCells_size (z : Array Value) (n : Nat) : (Builtin.zeroCells z n).size = n * z.size := by simp [Builtin.zeroCells]

theorem st1_at' {w : World} {b i : Nat} {x : Value} {cs : Array Value} {e : TypeId} {K : World → Prop} (h : w.heap[b]? = some (.cells cs e (0, 0))) :
    st1 w b i x K = (x.oneCell' = true ∧ i < cs.size ∧ frz (0, 0) i 1 = false ∧ K (w.put b (.cells (cs.setIfInBounds i x) e (0, 0)))) := by simp only [st1, h]
theorem stN_at' {w : World} {b i n : Nat} {xs : Array Value} {cs : Array Value} {e : TypeId} {K : World → Prop} (h : w.heap[b]? = some (.cells cs e (0, 0))) :
    stN w b i n (.agg xs) K = (xs.size = n ∧ (∀ u ∈ xs, u.oneCell' = true) ∧ i + xs.size ≤ cs.size ∧ frz (0, 0) i xs.size = false ∧ K (w.put b (.cells (splice cs i xs) e (0, 0)))) := by simp only [stN, h]
/-- A cell of an element of one's own is written. -/
theorem Ow.set1 {α : Type} {f : α → List Value} {l : List α} {N e sz : Nat} {w : World} {v : Value} {n : Nat} (h : Ow N e sz w v n (l.flatMap f)) (hf : ∀ x ∈ l, (f x).length = sz) (hn : n = l.length) {i k : Nat} (hi : i < n) (hk : k < sz) (y : α) (x : Value) (hx : x.oneCell' = true) (hy : f y = (f (l[i]'(hn ▸ hi))).set k x) :
    ∃ b o c, v = .slice (some ⟨b, o, none⟩) n c ∧ ∀ K : World → Prop, (∀ w', Ow N e sz w' v n ((l.set i y).flatMap f) → Fr N No w w' → w'.heap.size = w.heap.size → K w') → st1 w b (o + i * sz + k) x K := by
  obtain ⟨A, c, rfl, hnc, hl, h | ⟨b, o, X, rfl, hN, hb, hs, hX⟩⟩ := h
  · omega
  subst hn
  refine ⟨b, o, c, rfl, fun K hK => ?_⟩
  rw [st1_at' hb]
  have hlt := mul_lt hi hk
  have hcs : l.length * sz ≤ c * sz := Nat.mul_le_mul_right _ hnc
  have hyl : (f y).length = sz := by rw [hy, List.length_set]; exact hf _ (List.getElem_mem _)
  refine ⟨hx, by omega, frz00 _ _, hK _ ⟨_, c, rfl, hnc, ?_, .inr ⟨b, o, _, rfl, hN, put_same (lt_at hb), by simpa using hs, ?_⟩⟩ (Fr.refl.put (.inr hN)) (size_put _ _ _)⟩
  · rw [flat_len f _ (fun x hx => by
      rcases List.mem_or_eq_of_mem_set hx with hx | rfl
      · exact hf x hx
      · exact hyl), List.length_set]
  · intro q hq
    rw [flat_set_get f hf hi hyl q hq, Array.getElem?_setIfInBounds]
    have hsz : 0 < sz := by omega
    have eq : q = q / sz * sz + q % sz := by rw [Nat.mul_comm]; exact (Nat.div_add_mod q sz).symm
    have hqm := Nat.mod_lt q hsz
    by_cases h1 : q / sz = i
    · rw [if_pos h1, hy, List.getElem?_set]
      rw [h1] at eq
      by_cases h2 : k = q % sz
      · rw [if_pos (by omega), if_pos (by omega), if_pos h2, if_pos (by rw [hf _ (List.getElem_mem _)]; exact hk)]
      · rw [if_neg (by omega), if_neg h2, hX q hq]
        have := flat_get f hf hi hqm
        rw [← eq] at this; exact this
    · rw [if_neg h1, if_neg, hX q hq]
      intro h3
      apply h1
      have : q = i * sz + k := by omega
      rw [this, Nat.mul_comm, Nat.mul_add_div hsz, Nat.div_eq_of_lt hk]; rfl
/-- An element of one's own is written whole. -/
theorem Ow.setN {α : Type} {f : α → List Value} {l : List α} {N e sz : Nat} {w : World} {v : Value} {n : Nat} (h : Ow N e sz w v n (l.flatMap f)) (hf : ∀ x ∈ l, (f x).length = sz) (hn : n = l.length) {i : Nat} (hi : i < n) (hsz : 0 < sz) (y : α) (hyl : (f y).length = sz) (hx : ∀ u ∈ f y, u.oneCell' = true) :
    ∃ b o c, v = .slice (some ⟨b, o, none⟩) n c ∧ ∀ K : World → Prop, (∀ w', Ow N e sz w' v n ((l.set i y).flatMap f) → Fr N No w w' → w'.heap.size = w.heap.size → K w') → stN w b (o + i * sz) sz (.agg (f y).toArray) K := by
  obtain ⟨A, c, rfl, hnc, hl, h | ⟨b, o, X, rfl, hN, hb, hs, hX⟩⟩ := h
  · omega
  subst hn
  refine ⟨b, o, c, rfl, fun K hK => ?_⟩
  rw [stN_at' hb]
  have hcs : l.length * sz ≤ c * sz := Nat.mul_le_mul_right _ hnc
  have hi1 : (i + 1) * sz ≤ l.length * sz := Nat.mul_le_mul_right _ hi
  rw [Nat.add_mul, Nat.one_mul] at hi1
  have hroom : o + i * sz + (f y).toArray.size ≤ X.size := by simp only [List.size_toArray]; omega
  refine ⟨by simpa using hyl, by simpa using hx, by simpa using hroom, frz00 _ _, hK _ ⟨_, c, rfl, hnc, ?_, .inr ⟨b, o, _, rfl, hN, put_same (lt_at hb), by rw [splice_size hroom]; exact hs, ?_⟩⟩ (Fr.refl.put (.inr hN)) (size_put _ _ _)⟩
  · rw [flat_len f _ (fun x hx => by
      rcases List.mem_or_eq_of_mem_set hx with hx | rfl
      · exact hf x hx
      · exact hyl), List.length_set]
  · intro q hq
    rw [flat_set_get f hf hi hyl q hq, splice_get hroom]
    simp only [List.size_toArray, hyl]
    have eq : q = q / sz * sz + q % sz := by rw [Nat.mul_comm]; exact (Nat.div_add_mod q sz).symm
    have hqm := Nat.mod_lt q hsz
    by_cases h1 : q / sz = i
    · rw [if_pos h1]
      rw [h1] at eq
      rw [if_neg (by omega), if_pos (by omega)]
      rw [show o + q - (o + i * sz) = q % sz by omega]; simp
    · rw [if_neg h1]
      rcases Nat.lt_or_ge (q / sz) i with h2 | h2
      · have : (q / sz + 1) * sz ≤ i * sz := Nat.mul_le_mul_right _ h2
        rw [Nat.add_mul, Nat.one_mul] at this
        rw [if_pos (by omega)]; exact hX q hq
      · have : (i + 1) * sz ≤ q / sz * sz := Nat.mul_le_mul_right _ (by omega)
        rw [Nat.add_mul, Nat.one_mul] at this
        rw [if_neg (by omega), if_neg (by omega)]; exact hX q hq
/-- A slice's own block may be written; all else is as it was. -/
def OwF (N e : Nat) (A : Option Addr) (w w' : World) : Prop := Fr w.heap.size (fun b => N ≤ b ∧ (∃ X, w.heap[b]? = some (.cells X e (0, 0))) ∧ ∃ o, A = some ⟨b, o, none⟩) w w'
theorem OwF.refl {N e : Nat} {A : Option Addr} {w : World} : OwF N e A w w := Fr.refl
theorem OwF.fr {N e : Nat} {A : Option Addr} {w w' : World} (h : OwF N e A w w') (hN : N ≤ w.heap.size) : Fr N No w w' := h.mono hN fun b hb h => absurd h.1 (by omega)
theorem Ow.lt {N e sz : Nat} {w : World} {n c b o : Nat} {cs : List Value} (h : Ow N e sz w (.slice (some ⟨b, o, none⟩) n c) n cs) : b < w.heap.size := by
  obtain ⟨A, c', he, _, _, h | ⟨b', o', X, rfl, _, hb, _⟩⟩ := h
  · injection he with h1; rw [h.1] at h1; cases h1
  · injection he with h1; injection h1 with h1; injection h1 with h1; subst h1; exact lt_at hb
/-- append to a slice of one's own. -/
theorem ap_own {N e sz by_ : Nat} {z : Array Value} {A : Option Addr} {n c : Nat} {cs : List Value} {m : Nat} {news : List Value} {w : World} {K : Value → World → Prop}
    (hA : Ow N e sz w (.slice A n c) n cs) (hz : z.size = sz) (hsz : 0 < sz) (hnews : news.length = m * sz) (hone : ∀ u ∈ news, u.oneCell' = true) (hN : N ≤ w.heap.size) (hb : (2 * (n + m) + 512) * by_ ≤ 281474976710656) (hL : n + m ≤ 9223372036854775807)
    (hK : ∀ A' c' w', Ow N e sz w' (.slice A' (n + m) c') (n + m) (cs ++ news) → OwF N e A w w' → K (.slice A' (n + m) c') w') :
    apc e sz by_ z A n c (some (m, news.toArray)) w K := by
  have hA' := hA
  obtain ⟨A', c', he, hn, hl, hx⟩ := hA
  injection he with h1 h2 h3
  subst h1; subst h3
  have hlen : (cs ++ news).length = (n + m) * sz := by rw [List.length_append, hl, hnews, Nat.add_mul]
  refine ⟨by simpa using hone, ?_⟩
  split
  · rename_i hfit
    rcases hx with ⟨rfl, rfl⟩ | ⟨b, o, X, rfl, hbN, hbk, hs, hk⟩
    · refine hK none 0 w ⟨none, 0, rfl, by omega, hlen, .inl ⟨rfl, rfl⟩⟩ Fr.refl
    · simp only [List.size_toArray]
      split
      · rename_i h0
        have hm0 : m = 0 := by
          rcases Nat.eq_zero_or_pos m with h | h
          · exact h
          · have : 1 * 1 ≤ m * sz := Nat.mul_le_mul h hsz
            omega
        subst hm0
        have hn0 : news = [] := List.eq_nil_of_length_eq_zero h0
        subst hn0
        refine hK _ c w ⟨_, c, rfl, hfit, hlen, .inr ⟨b, o, X, rfl, hbN, hbk, hs, ?_⟩⟩ Fr.refl
        simpa using hk
      · rw [hbk]
        have hroom : o + n * sz + news.toArray.size ≤ X.size := by
          have : (n + m) * sz ≤ c * sz := Nat.mul_le_mul_right _ hfit
          rw [Nat.add_mul] at this
          simp only [List.size_toArray, hnews]; omega
        refine ⟨by simpa using hroom, frz00 _ _, ?_⟩
        refine hK _ c _ ⟨_, c, rfl, hfit, hlen, .inr ⟨b, o, _, rfl, hbN, put_same (lt_at hbk), by rw [splice_size hroom]; exact hs, ?_⟩⟩ (Fr.refl.put (.inl ⟨hbN, ⟨X, hbk⟩, o, rfl⟩))
        intro k hk2
        rw [splice_get hroom]
        by_cases h1 : k < n * sz
        · rw [if_pos (by omega), hk k h1, List.getElem?_append_left (by omega)]
        · rw [if_neg (by omega), if_pos (by simp only [List.size_toArray, hnews]; rw [Nat.add_mul] at hk2; omega), List.getElem?_append_right (by omega)]
          rw [show o + k - (o + n * sz) = k - cs.length by omega]; simp
  · rename_i hfit
    refine ⟨hL, Nat.le_trans (Nat.mul_le_mul_right _ (nextcap_le (by omega))) hb, ?_⟩
    rw [rds_sl hA'.sl]
    intro cap h1 h2
    refine hK _ cap _ ⟨_, cap, rfl, h1, hlen, .inr ⟨w.heap.size, 0, _, rfl, hN, alloc_at rfl, ?_, ?_⟩⟩ ((Fr.refl.drew).alloc (Nat.le_refl _))
    · simp only [Array.size_append, List.size_toArray, zeroCells_size, hz, hl, hnews]
      have : cap * sz = (n + m) * sz + (cap - (n + m)) * sz := by rw [← Nat.add_mul]; congr 1; omega
      rw [this, Nat.add_mul]; omega
    · intro k hk
      rw [Nat.zero_add, Array.getElem?_append_left (by simp only [Array.size_append, List.size_toArray]; rw [← List.length_append, hlen]; exact hk)]
      simp

/-- append to a slice without room, or nothing: the old one stays, the new one is new. -/
theorem ap_full {B : Nat → Prop} {e sz by_ : Nat} {z : Array Value} {A : Option Addr} {n : Nat} {cs : List Value} {m : Nat} {news : List Value} {w : World} {K : Value → World → Prop}
    (hA : Sl B e sz w (.slice A n n) n cs) (hz : z.size = sz) (hsz : 0 < sz) (hnews : news.length = m * sz) (hone : ∀ u ∈ news, u.oneCell' = true) (hb : (2 * (n + m) + 512) * by_ ≤ 281474976710656) (hL : n + m ≤ 9223372036854775807)
    (h0 : m = 0 → K (.slice A n n) w)
    (hK : 0 < m → ∀ cap X, n + m ≤ cap → (n + m) * sz ≤ X.size → (∀ k, k < (n + m) * sz → X[k]? = (cs ++ news)[k]?) → K (.slice (some ⟨w.heap.size, 0, none⟩) (n + m) cap) (w.drew.alloc (.cells X e))) :
    apc e sz by_ z A n n (some (m, news.toArray)) w K := by
  have hA' := hA
  obtain ⟨A', c', he, hn, hl, hx⟩ := hA
  injection he with h1 h2 h3
  subst h1; subst h3
  have hlen : (cs ++ news).length = (n + m) * sz := by rw [List.length_append, hl, hnews, Nat.add_mul]
  refine ⟨by simpa using hone, ?_⟩
  split
  · rename_i hfit
    have hm0 : m = 0 := by omega
    subst hm0
    have hn0 : news = [] := List.eq_nil_of_length_eq_zero (by simpa using hnews)
    subst hn0
    have h := h0 rfl
    rcases hx with hx | ⟨b, o, X, f, rfl, hN, hb, hs, hk⟩
    · rcases hx.2 with rfl | ⟨⟨b, o, _ | sp⟩, rfl⟩
      · exact h
      · simpa using h
      · simpa using h
    · simpa using h
  · rename_i hfit
    refine ⟨hL, Nat.le_trans (Nat.mul_le_mul_right _ (nextcap_le (by omega))) hb, ?_⟩
    rw [rds_sl hA']
    intro cap h1 h2
    refine hK (by omega) cap _ h1 ?_ ?_
    · simp only [Array.size_append, List.size_toArray, hl, hnews]
      rw [Nat.add_mul]; omega
    · intro k hk
      rw [Array.getElem?_append_left (by simp only [Array.size_append, List.size_toArray]; rw [← List.length_append, hlen]; exact hk)]
      simp

theorem st1_at {w : World} {b i : Nat} {x : Value} {cs : Array Value} {e : TypeId} {K : World → Prop} (h : w.heap[b]? = some (.cells cs e (0, 0))) :
    st1 w b i x K = (x.oneCell' = true ∧ i < cs.size ∧ frz (0, 0) i 1 = false ∧ K (w.put b (.cells (cs.setIfInBounds i x) e (0, 0)))) := by simp only [st1, h]
theorem st1_put {w : World} {b i : Nat} {x : Value} {cs : Array Value} {e : TypeId} {K : World → Prop} (h : b < w.heap.size) :
    st1 (w.put b (.cells cs e (0, 0))) b i x K = (x.oneCell' = true ∧ i < cs.size ∧ frz (0, 0) i 1 = false ∧ K (w.put b (.cells (cs.setIfInBounds i x) e (0, 0)))) := by rw [st1_at (put_same h), put_put]
theorem stN_at {w : World} {b i n : Nat} {xs : Array Value} {cs : Array Value} {e : TypeId} {K : World → Prop} (h : w.heap[b]? = some (.cells cs e (0, 0))) :
    stN w b i n (.agg xs) K = (xs.size = n ∧ (∀ u ∈ xs, u.oneCell' = true) ∧ i + xs.size ≤ cs.size ∧ frz (0, 0) i xs.size = false ∧ K (w.put b (.cells (splice cs i xs) e (0, 0)))) := by simp only [stN, h]
/-- The first elements of a slice. -/
theorem slc_pre {n c k : Nat} {kd : IntKind} (hk : k ≤ c) (K : Nat → Nat → Nat → Prop) : slc (bnd n c none (some (.int kd (k : Int))) none) K = K 0 k c := by
  have : bnd n c none (some (.int kd (k : Int))) none = some (0, k, c) := by
    simp [bnd, hk]
  rw [this]; rfl
theorem add_zero_mul {A : Option Addr} {sz m : Nat} (h : A = none ∨ ∃ a, A = some a) : (if m = 0 then A else A.map (·.add (0 * sz))) = A := by
  rcases h with rfl | ⟨a, rfl⟩
  · simp
  · simp [Addr.add]
theorem Sl.spot {B : Nat → Prop} {e sz : Nat} {w : World} {A : Option Addr} {c : Nat} {n : Nat} {cs : List Value} (h : Sl B e sz w (.slice A n c) n cs) : A = none ∨ ∃ a, A = some a := by
  obtain ⟨A', c', he, hn, hl, h | ⟨b, o, X, f, rfl, hN, hb, hs, hk⟩⟩ := h
  · injection he with h1; rw [h1]; exact h.2
  · injection he with h1; exact .inr ⟨_, h1⟩
theorem Sl.take {B : Nat → Prop} {e sz : Nat} {w : World} {A : Option Addr} {c : Nat} {n : Nat} {cs : List Value} (h : Sl B e sz w (.slice A n c) n cs) {k : Nat} (hk : k ≤ n) : Sl B e sz w (.slice A k c) k (cs.take (k * sz)) := by
  have hsp := h.spot
  have hkn : k * sz ≤ n * sz := Nat.mul_le_mul_right _ hk
  obtain ⟨A', c', he, hn, hl, h | ⟨b, o, X, f, rfl, hN, hb, hs, hx⟩⟩ := h
  · injection he with h1 h2 h3; subst h1; subst h3
    exact ⟨A, c, rfl, by omega, by rw [List.length_take]; omega, .inl ⟨by omega, hsp⟩⟩
  · injection he with h1 h2 h3; subst h1; subst h3
    refine ⟨_, c, rfl, by omega, by rw [List.length_take]; omega, .inr ⟨b, o, X, f, rfl, hN, hb, by omega, fun q hq => ?_⟩⟩
    rw [hx q (by omega), List.getElem?_take, if_pos hq]
theorem flat_take {α : Type} (f : α → List Value) {sz : Nat} : ∀ (l : List α) (k : Nat), (∀ x ∈ l, (f x).length = sz) → k ≤ l.length → (l.flatMap f).take (k * sz) = (l.take k).flatMap f := by
  intro l
  induction l with
  | nil => intro k _ _; simp
  | cons x r ih =>
    intro k hf hk
    cases k with
    | zero => simp
    | succ k =>
      rw [List.flatMap_cons, List.take_succ_cons, List.flatMap_cons, Nat.add_mul, Nat.one_mul, List.take_append, List.take_of_length_le (by rw [hf x (by simp)]; omega)]
      rw [hf x (by simp), Nat.add_sub_cancel, ih k (fun y hy => hf y (by simp [hy])) (by simpa using hk)]
theorem splice_all {X xs : Array Value} (h : xs.size = X.size) : splice X 0 xs = xs := by
  apply Array.ext'; simp [splice, h]
theorem put_alloc (w : World) (o o' : Obj) : (w.alloc o).put w.heap.size o' = w.alloc o' := by
  simp only [World.put, World.alloc]
  congr 1
  apply Array.ext'
  simp
/-- A variable that was just made is written. -/
theorem stN_new {w : World} {cs xs : Array Value} {e : TypeId} {n : Nat} {K : World → Prop} (h1 : cs.size = n) (h2 : xs.size = n) (h3 : ∀ u ∈ xs, u.oneCell' = true) (hK : K (w.alloc (.cells xs e (0, 0)))) : stN (w.alloc (.cells cs e (0, 0))) w.heap.size 0 n (.agg xs) K := by
  rw [stN_at (alloc_at rfl)]
  refine ⟨h2, h3, by omega, frz00 _ _, ?_⟩
  rw [splice_all (by omega), put_alloc]; exact hK
theorem zeros_one (v : Value) (n : Nat) : zeros #[v] n = List.replicate n v := by
  induction n with
  | zero => rfl
  | succ n ih => simp only [zeros, ih, List.replicate_succ]; rfl
theorem bsc_one {sz : Nat} {z : Array Value} {v : Value} (hv : v.cells.size = sz) (hz : z.size = sz) (K : Array Value → Prop) : bsc 1 sz z #[(0, v)] K = K v.cells := by
  have : fillA sz [(0, v)] (zeros z 1).toArray = some v.cells := by
    simp only [fillA]
    rw [if_pos ⟨hv, by simp [zeros, hz]⟩]
    simp only [Option.some.injEq]
    rw [Nat.zero_mul, splice_all]
    simp [zeros, hz, hv]
  simp only [bsc, this]
theorem bsc_empty (sz : Nat) (z : Array Value) (K : Array Value → Prop) : bsc 0 sz z #[] K = K #[] := rfl
end Go.Sh
