/- Maps that read as lists of pairs. Nothing of any one program stands here. -/
import Derived.Test.YtppefblkmgihoaaDoorMem
set_option linter.unusedVariables false
set_option linter.unusedSimpArgs false
namespace Go.Sh
open Go

/-- Element by element. -/
inductive F2 {γ δ : Type} (R : γ → δ → Prop) : List γ → List δ → Prop
  | nil : F2 R [] []
  | cons {a : γ} {b : δ} {l : List γ} {m : List δ} : R a b → F2 R l m → F2 R (a :: l) (b :: m)
theorem F2.length_eq {γ δ : Type} {R : γ → δ → Prop} {l : List γ} {m : List δ} (h : F2 R l m) : l.length = m.length := by
  induction h with
  | nil => rfl
  | cons _ _ ih => simp [ih]
theorem F2.append {γ δ : Type} {R : γ → δ → Prop} {l l' : List γ} {m m' : List δ} (h : F2 R l m) (h' : F2 R l' m') : F2 R (l ++ l') (m ++ m') := by
  induction h with
  | nil => exact h'
  | cons hx _ ih => exact .cons hx ih
theorem F2.get {γ δ : Type} {R : γ → δ → Prop} {l : List γ} {m : List δ} (h : F2 R l m) {i : Nat} (hi : i < l.length) (hi' : i < m.length) : R l[i] m[i] := by
  induction h generalizing i with
  | nil => simp at hi
  | cons hx _ ih =>
    cases i with
    | zero => exact hx
    | succ i => exact ih (by simpa using hi) (by simpa using hi')
theorem F2.of_get {γ δ : Type} {R : γ → δ → Prop} {l : List γ} : ∀ {m : List δ}, l.length = m.length → (∀ i, (hi : i < l.length) → (hi' : i < m.length) → R l[i] m[i]) → F2 R l m := by
  induction l with
  | nil => intro m hl _; rw [List.eq_nil_of_length_eq_zero (hl.symm)]; exact .nil
  | cons a l ih =>
    intro m hl h
    cases m with
    | nil => simp at hl
    | cons b m =>
      refine .cons (h 0 (by simp) (by simp)) (ih (by simpa using hl) fun i hi hi' => ?_)
      have := h (i + 1) (by simpa using hi) (by simpa using hi')
      simpa using this
theorem F2.mono {γ δ : Type} {R R' : γ → δ → Prop} {l : List γ} {m : List δ} (h : F2 R l m) (hR : ∀ a b, a ∈ l → b ∈ m → R a b → R' a b) : F2 R' l m := by
  induction h with
  | nil => exact .nil
  | cons hx _ ih => exact .cons (hR _ _ (by simp) (by simp) hx) (ih fun a b ha hb => hR a b (List.mem_cons_of_mem _ ha) (List.mem_cons_of_mem _ hb))
theorem F2.mem_left {γ δ : Type} {R : γ → δ → Prop} {l : List γ} {m : List δ} (h : F2 R l m) {a : γ} (ha : a ∈ l) : ∃ b ∈ m, R a b := by
  induction h with
  | nil => cases ha
  | cons hx _ ih =>
    rcases List.mem_cons.1 ha with rfl | ha
    · exact ⟨_, by simp, hx⟩
    · obtain ⟨b, hb, h⟩ := ih ha; exact ⟨b, List.mem_cons_of_mem _ hb, h⟩

section
variable {α β : Type} [DecidableEq α]
def aget : List (α × β) → α → Option β
  | [], _ => none
  | (a, b) :: r, k => if k = a then some b else aget r k
def aset : List (α × β) → α → β → List (α × β)
  | [], k, y => [(k, y)]
  | (a, b) :: r, k, y => if k = a then (k, y) :: r else (a, b) :: aset r k y
def adel : List (α × β) → α → List (α × β)
  | [], _ => []
  | (a, b) :: r, k => if k = a then r else (a, b) :: adel r k

theorem aget_mem {l : List (α × β)} {k : α} {y : β} (h : aget l k = some y) : (k, y) ∈ l := by
  induction l with
  | nil => cases h
  | cons p r ih =>
    obtain ⟨a, b⟩ := p
    simp only [aget] at h
    split at h
    · rename_i e; subst e; cases h; simp
    · exact List.mem_cons_of_mem _ (ih h)
theorem aget_none {l : List (α × β)} {k : α} : aget l k = none ↔ k ∉ l.map (·.1) := by
  induction l with
  | nil => simp [aget]
  | cons p r ih =>
    obtain ⟨a, b⟩ := p
    simp only [aget, List.map_cons, List.mem_cons, not_or]
    split
    · rename_i e; simp [e]
    · rename_i e; rw [ih]; simp [e]
theorem aget_first {l : List (α × β)} {k : α} : ∀ {i : Nat} (hi : i < l.length), (∀ j, (hj : j < l.length) → j < i → (l[j]).1 ≠ k) → (l[i]).1 = k → aget l k = some (l[i]).2 := by
  induction l with
  | nil => intro i hi; simp at hi
  | cons p r ih =>
    obtain ⟨a, b⟩ := p
    intro i hi hj hk
    cases i with
    | zero => simp only [aget]; rw [if_pos (by simpa using hk.symm)]; rfl
    | succ i =>
      have h0 := hj 0 (by simp) (by omega)
      simp only [aget]
      rw [if_neg (by intro e; exact h0 (by simpa using e.symm))]
      exact ih (by simpa using hi) (fun j hj' hlt => hj (j + 1) (by simpa using hj') (by omega)) hk
theorem aget_all {l : List (α × β)} {k : α} (h : ∀ j, (hj : j < l.length) → (l[j]).1 ≠ k) : aget l k = none := by
  rw [aget_none]
  intro hk
  obtain ⟨p, hp, e⟩ := List.mem_map.1 hk
  obtain ⟨j, hj, rfl⟩ := List.getElem_of_mem hp
  exact h j hj e
theorem aget_of_mem {l : List (α × β)} (hn : (l.map (·.1)).Nodup) {k : α} {y : β} (h : (k, y) ∈ l) : aget l k = some y := by
  induction l with
  | nil => cases h
  | cons p r ih =>
    obtain ⟨a, b⟩ := p
    simp only [List.map_cons, List.nodup_cons] at hn
    simp only [aget]
    rcases List.mem_cons.1 h with h | h
    · cases h; simp
    · have : k ≠ a := fun e => hn.1 (List.mem_map.2 ⟨(k, y), h, e⟩)
      rw [if_neg this]; exact ih hn.2 h
theorem aget_perm {l m : List (α × β)} (hp : l.Perm m) (hn : (l.map (·.1)).Nodup) (k : α) : aget l k = aget m k := by
  have hm : (m.map (·.1)).Nodup := (hp.map _).nodup_iff.1 hn
  cases h : aget l k with
  | none => exact (aget_none.2 fun hk => aget_none.1 h ((hp.map _).mem_iff.2 hk)).symm
  | some y => exact (aget_of_mem hm (hp.mem_iff.1 (aget_mem h))).symm
theorem aset_keys {l : List (α × β)} {k : α} {y : β} (h : k ∈ l.map (·.1)) : (aset l k y).map (·.1) = l.map (·.1) := by
  induction l with
  | nil => cases h
  | cons p r ih =>
    obtain ⟨a, b⟩ := p
    simp only [aset]
    split
    · rename_i e; subst e; rfl
    · rename_i e
      simp only [List.map_cons, List.mem_cons] at h ⊢
      rw [ih (h.resolve_left e)]
theorem aset_new {l : List (α × β)} {k : α} {y : β} (h : k ∉ l.map (·.1)) : aset l k y = l ++ [(k, y)] := by
  induction l with
  | nil => rfl
  | cons p r ih =>
    obtain ⟨a, b⟩ := p
    simp only [List.map_cons, List.mem_cons, not_or] at h
    simp only [aset, if_neg h.1, ih h.2, List.cons_append]
theorem adel_none {l : List (α × β)} {k : α} (h : k ∉ l.map (·.1)) : adel l k = l := by
  induction l with
  | nil => rfl
  | cons p r ih =>
    obtain ⟨a, b⟩ := p
    simp only [List.map_cons, List.mem_cons, not_or] at h
    simp only [adel, if_neg h.1, ih h.2]
theorem aset_nodup {l : List (α × β)} {k : α} {y : β} (hn : (l.map (·.1)).Nodup) : ((aset l k y).map (·.1)).Nodup := by
  by_cases h : k ∈ l.map (·.1)
  · rw [aset_keys h]; exact hn
  · rw [aset_new h, List.map_append]
    refine List.nodup_append.2 ⟨hn, by simp, ?_⟩
    intro a ha b hb
    simp only [List.map_cons, List.map_nil, List.mem_singleton] at hb
    subst hb; rintro rfl; exact h ha
theorem adel_sub {l : List (α × β)} {k : α} : (adel l k).Sublist l := by
  induction l with
  | nil => exact List.Sublist.refl _
  | cons p r ih =>
    obtain ⟨a, b⟩ := p
    simp only [adel]
    split
    · exact List.sublist_cons_self _ _
    · exact ih.cons_cons _
theorem adel_nodup {l : List (α × β)} {k : α} (hn : (l.map (·.1)).Nodup) : ((adel l k).map (·.1)).Nodup := (adel_sub.map _).nodup hn
theorem aget_aset (l : List (α × β)) (k j : α) (y : β) : aget (aset l k y) j = if j = k then some y else aget l j := by
  induction l with
  | nil => simp [aset, aget]
  | cons p r ih =>
    obtain ⟨a, b⟩ := p
    simp only [aset]
    split
    · rename_i e; subst e; simp only [aget]; split <;> rfl
    · rename_i e
      simp only [aget, ih]
      split
      · rename_i e2; subst e2; rw [if_neg (Ne.symm e)]
      · rfl
theorem aget_adel {l : List (α × β)} (hn : (l.map (·.1)).Nodup) (k j : α) : aget (adel l k) j = if j = k then none else aget l j := by
  induction l with
  | nil => simp [adel, aget]
  | cons p r ih =>
    obtain ⟨a, b⟩ := p
    simp only [List.map_cons, List.nodup_cons] at hn
    simp only [adel]
    split
    · rename_i e; subst e
      split
      · rename_i e2; subst e2; exact aget_none.2 hn.1
      · rename_i e2; simp only [aget, if_neg e2]
    · rename_i e
      simp only [aget, ih hn.2]
      split
      · rename_i e2; subst e2; rw [if_neg (Ne.symm e)]
      · rfl
theorem mem_aset {l : List (α × β)} {k : α} {y : β} {p : α × β} (h : p ∈ aset l k y) : p = (k, y) ∨ p ∈ l := by
  induction l with
  | nil => simpa [aset] using h
  | cons q r ih =>
    obtain ⟨a, b⟩ := q
    simp only [aset] at h
    split at h
    · rcases List.mem_cons.1 h with h | h
      · exact .inl h
      · exact .inr (List.mem_cons_of_mem _ h)
    · rcases List.mem_cons.1 h with h | h
      · exact .inr (by rw [h]; simp)
      · rcases ih h with h | h
        · exact .inl h
        · exact .inr (List.mem_cons_of_mem _ h)
theorem aset_perm {l m : List (α × β)} (hp : l.Perm m) (hn : (l.map (·.1)).Nodup) (k : α) (y : β) : (aset l k y).Perm (aset m k y) := by
  induction hp with
  | nil => exact List.Perm.refl _
  | cons x hp ih =>
    obtain ⟨a, b⟩ := x
    simp only [List.map_cons, List.nodup_cons] at hn
    simp only [aset]
    split
    · exact hp.cons _
    · exact (ih hn.2).cons _
  | swap x z l =>
    obtain ⟨a, b⟩ := x; obtain ⟨c, d⟩ := z
    simp only [List.map_cons, List.nodup_cons, List.mem_cons, not_or] at hn
    simp only [aset]
    by_cases h1 : k = a
    · subst h1
      have : ¬ k = c := fun e => hn.1.1 e.symm
      simp only [if_neg this, if_true]
      exact List.Perm.swap _ _ _
    · by_cases h2 : k = c
      · subst h2; simp only [if_true, if_neg h1]; exact List.Perm.swap _ _ _
      · simp only [if_neg h1, if_neg h2]; exact List.Perm.swap _ _ _
  | trans hp hq ih1 ih2 => exact (ih1 hn).trans (ih2 ((hp.map _).nodup_iff.1 hn))
theorem adel_perm {l m : List (α × β)} (hp : l.Perm m) (hn : (l.map (·.1)).Nodup) (k : α) : (adel l k).Perm (adel m k) := by
  induction hp with
  | nil => exact List.Perm.refl _
  | cons x hp ih =>
    obtain ⟨a, b⟩ := x
    simp only [List.map_cons, List.nodup_cons] at hn
    simp only [adel]
    split
    · exact hp
    · exact (ih hn.2).cons _
  | swap x z l =>
    obtain ⟨a, b⟩ := x; obtain ⟨c, d⟩ := z
    simp only [List.map_cons, List.nodup_cons, List.mem_cons, not_or] at hn
    simp only [adel]
    by_cases h1 : k = a
    · subst h1
      have : ¬ k = c := fun e => hn.1.1 e.symm
      simp only [if_neg this, if_true]
      exact List.Perm.refl _
    · by_cases h2 : k = c
      · subst h2; simp only [if_true, if_neg h1]; exact List.Perm.refl _
      · simp only [if_neg h1, if_neg h2]; exact List.Perm.swap _ _ _
  | trans hp hq ih1 ih2 => exact (ih1 hn).trans (ih2 ((hp.map _).nodup_iff.1 hn))
end

/-! ### Entries -/
/-- Keys of a kind: their values, and how they are compared. -/
structure Kf (α : Type) [DecidableEq α] where
  d : TypeDesc
  f : α → Value
  same : ∀ a b, Instr.sameNow d (f a) (f b) = some (decide (a = b))
def strK : Kf ByteArray where
  d := .string
  f := .string
  same a b := by
    show some (a == b) = _
    congr 1
    rw [Bool.eq_iff_iff, bytes_beq]; simp

section
variable {α β : Type} [DecidableEq α]
/-- The entries are these pairs, in this order. -/
structure Mp (kf : Kf α) (V : β → Value → Prop) (es : Array MapEntry) (c : Nat) (l : List (α × β)) : Prop where
  all : F2 (fun (e : MapEntry) (p : α × β) => e.key = kf.f p.1 ∧ V p.2 e.val) es.toList l
  born : (es.toList.map (·.born)).Nodup
  lt : ∀ e ∈ es.toList, e.born < c
  nodup : (l.map (·.1)).Nodup

theorem Mp.size {kf : Kf α} {V : β → Value → Prop} {es : Array MapEntry} {c : Nat} {l : List (α × β)} (h : Mp kf V es c l) : es.size = l.length := by
  have := h.all.length_eq; simpa using this
theorem Mp.empty (kf : Kf α) (V : β → Value → Prop) : Mp kf V #[] 0 [] := ⟨.nil, List.nodup_nil, by simp, List.nodup_nil⟩
theorem Mp.imp {kf : Kf α} {V V' : β → Value → Prop} {es : Array MapEntry} {c : Nat} {l : List (α × β)} (h : Mp kf V es c l) (hV : ∀ p ∈ l, ∀ v, V p.2 v → V' p.2 v) : Mp kf V' es c l := by
  exact ⟨h.all.mono fun a b _ hb hx => ⟨hx.1, hV b hb _ hx.2⟩, h.born, h.lt, h.nodup⟩

theorem findNow_get {kf : Kf α} {V : β → Value → Prop} {k : α} : ∀ {es : List MapEntry} {l : List (α × β)}, F2 (fun (e : MapEntry) (p : α × β) => e.key = kf.f p.1 ∧ V p.2 e.val) es l → ∀ i,
    match aget l k with
    | none => Instr.findNow kf.d (kf.f k) es i = some none
    | some y => ∃ j v, Instr.findNow kf.d (kf.f k) es i = some (some (i + j, v)) ∧ V y v ∧ j < es.length ∧
        (∀ e' : MapEntry, ∀ y', e'.key = kf.f k → V y' e'.val → F2 (fun (e : MapEntry) (p : α × β) => e.key = kf.f p.1 ∧ V p.2 e.val) (es.set j e') (aset l k y')) ∧
        F2 (fun (e : MapEntry) (p : α × β) => e.key = kf.f p.1 ∧ V p.2 e.val) (es.eraseIdx j) (adel l k) := by
  intro es l h
  induction h with
  | nil => intro i; simp [aget, Instr.findNow]
  | @cons e p es l hx hr ih =>
    intro i
    obtain ⟨a, b⟩ := p
    have hs : Instr.sameNow kf.d (kf.f k) e.key = some (decide (k = a)) := by rw [hx.1]; exact kf.same _ _
    simp only [aget]
    by_cases hk : k = a
    · subst hk
      rw [if_pos rfl]
      refine ⟨0, e.val, by simp [Instr.findNow, hs], hx.2, by simp, ?_, ?_⟩
      · intro e' y' h1 h2
        simp only [List.set_cons_zero, aset, if_true]
        exact .cons ⟨h1, h2⟩ hr
      · simp only [List.eraseIdx_cons_zero, adel, if_true]; exact hr
    · rw [if_neg hk]
      have := ih (i + 1)
      split at this
      · rename_i hg; simp only [Instr.findNow, hs, decide_eq_false hk]; exact this
      · rename_i y hg
        obtain ⟨j, v, h1, h2, h3, h4, h5⟩ := this
        refine ⟨j + 1, v, ?_, h2, by simpa using h3, ?_, ?_⟩
        · simp only [Instr.findNow, hs, decide_eq_false hk]; rw [h1]; congr 3; omega
        · intro e' y' h6 h7
          simp only [List.set_cons_succ, aset, if_neg hk]
          exact .cons hx (h4 e' y' h6 h7)
        · simp only [List.eraseIdx_cons_succ, adel, if_neg hk]
          exact .cons hx h5

/-- Looking up. -/
theorem lk_mp {kf : Kf α} {V : β → Value → Prop} {es : Array MapEntry} {c : Nat} {l : List (α × β)} (h : Mp kf V es c l) (k : α) (z : Value) (K : Value → Prop) :
    (aget l k = none → K z) → (∀ y v, aget l k = some y → V y v → K v) → lkc kf.d z (some es) (kf.f k) false K := by
  intro h0 h1
  have := findNow_get (k := k) h.all 0
  simp only [lkc]
  split at this
  · rename_i hg; rw [this]; exact h0 hg
  · rename_i y hg
    obtain ⟨j, v, h2, h3, _⟩ := this
    rw [h2]; exact h1 y v hg h3
theorem lk_mp_ok {kf : Kf α} {V : β → Value → Prop} {es : Array MapEntry} {c : Nat} {l : List (α × β)} (h : Mp kf V es c l) (k : α) (z : Value) (K : Value → Prop) :
    (aget l k = none → K (.tuple #[z, .bool false])) → (∀ y v, aget l k = some y → V y v → K (.tuple #[v, .bool true])) → lkc kf.d z (some es) (kf.f k) true K := by
  intro h0 h1
  have := findNow_get (k := k) h.all 0
  simp only [lkc]
  split at this
  · rename_i hg; rw [this]; exact h0 hg
  · rename_i y hg
    obtain ⟨j, v, h2, h3, _⟩ := this
    rw [h2]; exact h1 y v hg h3
theorem lk_mp_val {kf : Kf α} {V : β → Value → Prop} {es : Array MapEntry} {c : Nat} {l : List (α × β)} (h : Mp kf V es c l) (k : α) (z : Value) (dflt : β) (hz : V dflt z) : ∃ v, V ((aget l k).getD dflt) v ∧ ∀ K : Value → Prop, K v → lkc kf.d z (some es) (kf.f k) false K := by
  have := findNow_get (k := k) h.all 0
  split at this
  · rename_i hg; exact ⟨z, by rw [hg]; exact hz, fun K hK => by simp only [lkc, this, lkRes]; exact hK⟩
  · rename_i y hg
    obtain ⟨j, v, h2, h3, _⟩ := this
    exact ⟨v, by rw [hg]; exact h3, fun K hK => by simp only [lkc, h2, lkRes]; exact hK⟩
/-- Setting. -/
theorem mu_mp {kf : Kf α} {V : β → Value → Prop} {es : Array MapEntry} {c : Nat} {l : List (α × β)} (h : Mp kf V es c l) {w : World} {r : Nat} (hr : w.heap[r]? = some (.map es c)) (k : α) (y : β) (v : Value) (hv : V y v) (K : World → Prop)
    (hK : ∀ es' c', Mp kf V es' c' (aset l k y) → K (w.put r (.map es' c'))) : muc kf.d w r (kf.f k) v K := by
  have := findNow_get (k := k) h.all 0
  simp only [muc, hr]
  split at this
  · rename_i hg
    rw [this]
    refine hK _ _ ?_
    rw [aset_new (aget_none.1 hg)]
    refine ⟨?_, ?_, ?_, ?_⟩
    · simp only [Array.toList_push]
      exact F2.append h.all (.cons ⟨rfl, hv⟩ .nil)
    · simp only [Array.toList_push, List.map_append, List.map_cons, List.map_nil]
      refine List.nodup_append.2 ⟨h.born, by simp, ?_⟩
      intro a ha b hb
      obtain ⟨e, he, rfl⟩ := List.mem_map.1 ha
      simp only [List.mem_singleton] at hb
      have := h.lt e he
      omega
    · intro e he
      simp only [Array.toList_push, List.mem_append, List.mem_singleton] at he
      rcases he with he | rfl
      · have := h.lt e he; omega
      · simp
    · have := aset_nodup (k := k) (y := y) h.nodup
      rw [aset_new (aget_none.1 hg)] at this; exact this
  · rename_i y0 hg
    obtain ⟨j, v0, h2, h3, h4, h5, _⟩ := this
    rw [h2]
    simp only [Nat.zero_add]
    refine hK _ _ ?_
    have hj : j < es.size := by simpa using h4
    have e1 : (es.modify j fun e => { e with key := kf.f k, val := v }).toList = es.toList.set j { es[j] with key := kf.f k, val := v } := by
      apply List.ext_getElem?
      intro i
      rw [Array.toList_modify, List.getElem?_modify, List.getElem?_set]
      split
      · rename_i e; subst e; simp [hj]
      · simp
    refine ⟨?_, ?_, ?_, aset_nodup h.nodup⟩
    · rw [e1]; exact h5 _ y rfl hv
    · rw [e1, List.map_set]
      have : (es.toList.map (·.born)).set j es[j].born = es.toList.map (·.born) := by
        apply List.ext_getElem?
        intro i
        rw [List.getElem?_set]
        split
        · rename_i e; subst e; simp [hj]
        · rfl
      show ((es.toList.map (·.born)).set j es[j].born).Nodup
      rw [this]; exact h.born
    · rw [e1]
      intro e he
      rcases List.mem_or_eq_of_mem_set he with he | rfl
      · exact h.lt e he
      · exact h.lt es[j] (by simp)
/-- Deleting. -/
theorem dl_mp {kf : Kf α} {V : β → Value → Prop} {es : Array MapEntry} {c : Nat} {l : List (α × β)} (h : Mp kf V es c l) {w : World} {r : Nat} (hr : w.heap[r]? = some (.map es c)) (k : α) (K : World → Prop)
    (hK : ∀ es' c', Mp kf V es' c' (adel l k) → K (w.put r (.map es' c'))) : dlc kf.d w r (kf.f k) K := by
  have := findNow_get (k := k) h.all 0
  simp only [dlc, hr]
  split at this
  · rename_i hg
    rw [this]
    refine hK _ _ ?_
    rw [adel_none (aget_none.1 hg)]; exact h
  · rename_i y0 hg
    obtain ⟨j, v0, h2, h3, h4, _, h5⟩ := this
    rw [h2]
    simp only [Nat.zero_add]
    refine hK _ _ ?_
    have hj : j < es.size := by simpa using h4
    have e1 : (es.eraseIdxIfInBounds j).toList = es.toList.eraseIdx j := by simp [Array.eraseIdxIfInBounds, hj]
    refine ⟨by rw [e1]; exact h5, ?_, ?_, adel_nodup h.nodup⟩
    · rw [e1]; exact ((List.eraseIdx_sublist _ _).map _).nodup h.born
    · rw [e1]; intro e he; exact h.lt e ((List.eraseIdx_sublist _ _).subset he)

/-! ### Going through a map -/
theorem F2.split {γ δ : Type} {R : γ → δ → Prop} : ∀ {s : List γ} {e : γ} {t : List γ} {m : List δ}, F2 R (s ++ e :: t) m → ∃ s' p t', m = s' ++ p :: t' ∧ F2 R s s' ∧ R e p ∧ F2 R t t' := by
  intro s
  induction s with
  | nil => intro e t m h; cases h with | cons hx hr => exact ⟨[], _, _, rfl, .nil, hx, hr⟩
  | cons a s ih =>
    intro e t m h
    cases h with
    | cons hx hr =>
      obtain ⟨s', p, t', rfl, h1, h2, h3⟩ := ih hr
      exact ⟨_ :: s', p, t', rfl, .cons hx h1, h2, h3⟩
/-- How far a range over a map is: what was met, what is left. -/
def It (kf : Kf α) (V : β → Value → Prop) (es : Array MapEntry) (seen : Array Nat) (done rest : List (α × β)) : Prop :=
  ∃ de re : List MapEntry, (de ++ re).Perm es.toList ∧ seen.toList = de.map (·.born) ∧ F2 (fun (e : MapEntry) (p : α × β) => e.key = kf.f p.1 ∧ V p.2 e.val) de done ∧ F2 (fun (e : MapEntry) (p : α × β) => e.key = kf.f p.1 ∧ V p.2 e.val) re rest
def Cur (es : Array MapEntry) (seen : Array Nat) (k v : Value) : Prop := ∃ s e, seen.back? = some s ∧ es.find? (·.born == s) = some e ∧ e.key = k ∧ e.val = v
theorem It.init {kf : Kf α} {V : β → Value → Prop} {es : Array MapEntry} {c : Nat} {l : List (α × β)} (h : Mp kf V es c l) : It kf V es #[] [] l := ⟨[], es.toList, by simp, rfl, .nil, h.all⟩
theorem It.imp {kf : Kf α} {V V' : β → Value → Prop} {es : Array MapEntry} {seen : Array Nat} {done rest : List (α × β)} (h : It kf V es seen done rest) (hV : ∀ p v, V p v → V' p v) : It kf V' es seen done rest := by
  obtain ⟨de, re, h1, h2, h3, h4⟩ := h
  exact ⟨de, re, h1, h2, h3.mono fun _ _ _ _ hx => ⟨hx.1, hV _ _ hx.2⟩, h4.mono fun _ _ _ _ hx => ⟨hx.1, hV _ _ hx.2⟩⟩
theorem nx_mp {kf : Kf α} {V : β → Value → Prop} {es : Array MapEntry} {c : Nat} {l done rest : List (α × β)} {seen : Array Nat} {w : World} {r m : Nat} (h : Mp kf V es c l) (hi : It kf V es seen done rest)
    (hr : w.heap[r]? = some (.mapIter (some m) c seen c)) (hm : w.heap[m]? = some (.map es c)) {K : Value → World → Prop}
    (h0 : rest = [] → ∀ w', w' = w ∨ w' = w.drew → K (.tuple #[.bool false]) w')
    (h1 : ∀ p rest' v seen' w', (p :: rest').Perm rest → V p.2 v → It kf V es seen' (done ++ [p]) rest' → (w' = w ∨ w' = w.drew) → Cur es seen' (kf.f p.1) v → K (.tuple #[.bool true, kf.f p.1, v]) (w'.put r (.mapIter (some m) c seen' c))) :
    nx (.pointer (some ⟨r, 0, none⟩)) w K := by
  obtain ⟨de, re, hp, hs, hd, hre⟩ := hi
  have hnd : ((de ++ re).map (·.born)).Nodup := (hp.map _).nodup_iff.2 h.born
  simp only [nx, hr, hm]
  refine ⟨fun e he => ⟨h.lt e (by simpa using he), h.lt e (by simpa using he)⟩, ?_, ?_⟩
  · intro hl
    refine h0 ?_
    cases hre with
    | nil => rfl
    | @cons e p re' rest' hx hr' =>
      have : e ∈ leftOf es seen := by
        simp only [leftOf, List.mem_filter]
        refine ⟨hp.mem_iff.1 (by simp), ?_⟩
        simp only [Bool.not_eq_true']
        cases hc : seen.contains e.born with
        | false => rfl
        | true =>
          exfalso
          have : e.born ∈ seen.toList := by simpa using hc
          rw [hs] at this
          rw [List.map_append, List.nodup_append] at hnd
          exact hnd.2.2 _ this e.born (by simp) rfl
      rw [hl] at this; cases this
  · intro e he w' hw'
    simp only [leftOf, List.mem_filter, Bool.not_eq_true'] at he
    have hre' : e ∈ re := by
      rcases List.mem_append.1 (hp.mem_iff.2 he.1) with h2 | h2
      · exfalso
        have : e.born ∈ seen.toList := by rw [hs]; exact List.mem_map.2 ⟨e, h2, rfl⟩
        have h3 : seen.contains e.born = true := by simpa using this
        rw [he.2] at h3; cases h3
      · exact h2
    obtain ⟨s, t, rfl⟩ := List.append_of_mem hre'
    obtain ⟨s', p, t', rfl, f1, f2, f3⟩ := hre.split
    have hpp : (de ++ [e] ++ (s ++ t)).Perm es.toList := by
      refine List.Perm.trans ?_ hp
      rw [List.append_assoc]
      refine List.Perm.append_left _ ?_
      exact (List.perm_middle (l₁ := s) (l₂ := t) (a := e)).symm
    have := h1 p (s' ++ t') e.val (seen.push e.born) w' (List.perm_middle).symm f2.2 ⟨de ++ [e], s ++ t, hpp, by simp [hs], hd.append (.cons f2 .nil), f1.append f3⟩ hw' ⟨e.born, e, by simp, ?_, f2.1, rfl⟩
    · rw [f2.1]; exact this
    · rw [← Array.find?_toList]
      have hb := h.born
      have hmem := he.1
      generalize es.toList = L at hb hmem
      induction L with
      | nil => cases hmem
      | cons x L ih =>
        simp only [List.map_cons, List.nodup_cons] at hb
        rw [List.find?_cons]
        rcases List.mem_cons.1 hmem with rfl | hmem
        · simp
        · have : (x.born == e.born) = false := by
            simp only [beq_eq_false_iff_ne]
            intro he
            exact hb.1 (List.mem_map.2 ⟨e, hmem, he.symm⟩)
          rw [this]; exact ih hb.2 hmem
theorem en_mp {es : Array MapEntry} {c s0 : Nat} {seen : Array Nat} {w : World} {r m : Nat} {k v : Value} (hr : w.heap[r]? = some (.mapIter (some m) s0 seen c)) (hm : w.heap[m]? = some (.map es c)) (hc : Cur es seen k v) {K : Value → World → Prop} (hK : K (.tuple #[k, v]) w) : en (.pointer (some ⟨r, 0, none⟩)) w K := by
  obtain ⟨s, e, h1, h2, rfl, rfl⟩ := hc
  simp only [en, hr, h1, hm, h2]
  exact ⟨trivial, hK⟩
end
end Go.Sh
