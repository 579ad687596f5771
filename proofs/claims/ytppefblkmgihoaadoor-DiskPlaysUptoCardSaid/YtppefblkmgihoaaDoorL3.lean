/- What is left when the power went: plain Lean. -/
import Derived.Test.YtppefblkmgihoaaDoorL2
set_option linter.unusedVariables false
set_option linter.unusedSimpArgs false
namespace Go.Proofs.YtppefblkmgihoaaDoor
open Go.Sh

def fateStep (keep : List Bool) (q : List Sec × Nat) (s : Sec) : List Sec × Nat :=
  if s.sy then (q.1 ++ [s], q.2) else (q.1 ++ [⟨if keep.getD q.2 false then s.by_ else List.replicate 32 0, true⟩], q.2 + 1)
/-- A file's sectors: of those that were not synced the kept ones, noughts for the others. -/
def fateRun (keep : List Bool) (i : Nat) (l : List Sec) : List Sec × Nat := l.foldl (fateStep keep) ([], i)
theorem fateRun_succ {keep : List Bool} {i : Nat} {l : List Sec} {j : Nat} (hj : j < l.length) : fateRun keep i (l.take (j + 1)) = fateStep keep (fateRun keep i (l.take j)) l[j] := by
  unfold fateRun
  rw [List.take_succ_eq_append_getElem hj, List.foldl_append]; rfl
theorem fateStep_len (keep : List Bool) (q : List Sec × Nat) (s : Sec) : (fateStep keep q s).1.length = q.1.length + 1 ∧ (fateStep keep q s).2 ≤ q.2 + 1 := by
  unfold fateStep; split <;> simp
theorem fateRun_aux (keep : List Bool) : ∀ (l : List Sec) (q : List Sec × Nat), (l.foldl (fateStep keep) q).1.length = q.1.length + l.length ∧ (l.foldl (fateStep keep) q).2 ≤ q.2 + l.length := by
  intro l
  induction l with
  | nil => intro q; simp
  | cons s r ih =>
    intro q
    have h1 := fateStep_len keep q s
    have h2 := ih (fateStep keep q s)
    simp only [List.foldl_cons, List.length_cons]
    omega
theorem fateRun_len (keep : List Bool) (i : Nat) (l : List Sec) : (fateRun keep i l).1.length = l.length := by unfold fateRun; have := (fateRun_aux keep l ([], i)).1; simpa using this
theorem fateRun_num (keep : List Bool) (i : Nat) (l : List Sec) : (fateRun keep i l).2 ≤ i + l.length := (fateRun_aux keep l ([], i)).2
theorem fateRun_32 (keep : List Bool) (i : Nat) : ∀ {l : List Sec}, (∀ s ∈ l, s.by_.length = 32) → ∀ s ∈ (fateRun keep i l).1, s.by_.length = 32 := by
  intro l h
  unfold fateRun
  suffices H : ∀ (l : List Sec) (q : List Sec × Nat), (∀ s ∈ l, s.by_.length = 32) → (∀ s ∈ q.1, s.by_.length = 32) → ∀ s ∈ (l.foldl (fateStep keep) q).1, s.by_.length = 32 from H l _ h (by simp)
  clear h l
  intro l
  induction l with
  | nil => intro q _ hq; exact hq
  | cons s r ih =>
    intro q h hq
    refine ih _ (fun x hx => h x (by simp [hx])) fun x hx => ?_
    unfold fateStep at hx
    split at hx
    · rcases List.mem_append.1 hx with hx | hx
      · exact hq x hx
      · simp only [List.mem_singleton] at hx; rw [hx]; exact h s (by simp)
    · rcases List.mem_append.1 hx with hx | hx
      · exact hq x hx
      · simp only [List.mem_singleton] at hx; rw [hx]
        show (if _ then _ else _ : List UInt8).length = 32
        split
        · exact h s (by simp)
        · simp
def fateFsStep (keep : List Bool) (q : Files × Nat) (p : ByteArray × List Sec) : Files × Nat := (q.1 ++ [(p.1, (fateRun keep q.2 p.2).1)], (fateRun keep q.2 p.2).2)
def fateFs (keep : List Bool) (l : Files) : Files × Nat := l.foldl (fateFsStep keep) ([], 0)
theorem fateFs_succ {keep : List Bool} {l : Files} {j : Nat} (hj : j < l.length) : fateFs keep (l.take (j + 1)) = fateFsStep keep (fateFs keep (l.take j)) l[j] := by
  unfold fateFs
  rw [List.take_succ_eq_append_getElem hj, List.foldl_append]; rfl
theorem fateFs_aux (keep : List Bool) : ∀ (l : Files) (q : Files × Nat), (l.foldl (fateFsStep keep) q).1.map (·.1) = q.1.map (·.1) ++ l.map (·.1) ∧ (l.foldl (fateFsStep keep) q).1.map (fun p => p.2.length) = q.1.map (fun p => p.2.length) ++ l.map (fun p => p.2.length) ∧ (l.foldl (fateFsStep keep) q).2 ≤ q.2 + Files.total l := by
  intro l
  induction l with
  | nil => intro q; simp [Files.total]
  | cons s r ih =>
    intro q
    have h2 := ih (fateFsStep keep q s)
    have h3 := fateRun_num keep q.2 s.2
    have h4 := fateRun_len keep q.2 s.2
    simp only [List.foldl_cons, Files.total, List.map_cons, List.sum_cons] at h2 ⊢
    refine ⟨?_, ?_, ?_⟩
    · rw [h2.1]; simp [fateFsStep]
    · rw [h2.2.1]; simp [fateFsStep, h4]
    · have : (fateFsStep keep q s).2 = (fateRun keep q.2 s.2).2 := rfl
      omega
theorem fateFs_keys (keep : List Bool) (l : Files) : (fateFs keep l).1.map (·.1) = l.map (·.1) := by unfold fateFs; have := (fateFs_aux keep l ([], 0)).1; simpa using this
theorem fateFs_num (keep : List Bool) (l : Files) : (fateFs keep l).2 ≤ Files.total l := by unfold fateFs; have := (fateFs_aux keep l ([], 0)).2.2; simpa using this
theorem fateFs_lens (keep : List Bool) (l : Files) : (fateFs keep l).1.map (fun p => p.2.length) = l.map (fun p => p.2.length) := by unfold fateFs; have := (fateFs_aux keep l ([], 0)).2.1; simpa using this
theorem fateFs_total (keep : List Bool) (l : Files) : Files.total (fateFs keep l).1 = l.total := by unfold Files.total; rw [fateFs_lens]
theorem fateFs_ok {keep : List Bool} {l : Files} (h : l.ok) : Files.ok (fateFs keep l).1 := by
  intro p hp
  have h1 : p.2.length ∈ (fateFs keep l).1.map (fun p => p.2.length) := List.mem_map.2 ⟨p, hp, rfl⟩
  rw [fateFs_lens] at h1
  obtain ⟨q, hq, e⟩ := List.mem_map.1 h1
  rw [← e]; exact h q hq
theorem fateFs_sorted {keep : List Bool} {l : Files} (h : l.sorted) : Files.sorted (fateFs keep l).1 := by
  unfold Files.sorted at *
  have h1 : (l.map (·.1)).Pairwise fun a b => slt a b = true := by rw [List.pairwise_map]; exact h
  rw [← fateFs_keys keep l, List.pairwise_map] at h1
  exact h1
theorem total_take (l : Files) (k : Nat) (hk : k < l.length) : Files.total (l.take k) + (l[k]).2.length ≤ l.total := by
  have h : Files.total (List.take (k + 1) l ++ List.drop (k + 1) l) = l.total := by rw [List.take_append_drop]
  have h2 : Files.total (l.take (k + 1)) = Files.total (l.take k) + (l[k]).2.length := by
    unfold Files.total; rw [List.take_succ_eq_append_getElem hk, List.map_append, List.sum_append]; simp only [List.map_cons, List.map_nil, List.sum_cons, List.sum_nil, Nat.add_zero]
  simp only [Files.total, List.map_append, List.sum_append] at h h2 ⊢
  omega
/-- One file is settled. -/
theorem fate_aset {l fs : Files} {keep : List Bool} {k : Nat} (hk : k < l.length) (hn : (l.map (·.1)).Nodup) (hp : fs.Perm ((fateFs keep (l.take k)).1 ++ List.drop k l)) :
    fs.at (l[k]).1 = (l[k]).2 ∧ (aset fs (l[k]).1 (fateRun keep (fateFs keep (l.take k)).2 (l[k]).2).1).Perm ((fateFs keep (l.take (k + 1))).1 ++ List.drop (k + 1) l) := by
  have hkeys : ((fateFs keep (l.take k)).1 ++ List.drop k l).map (·.1) = l.map (·.1) := by
    rw [List.map_append, fateFs_keys, ← List.map_append, List.take_append_drop]
  have hn2 : (((fateFs keep (l.take k)).1 ++ List.drop k l).map (·.1)).Nodup := by rw [hkeys]; exact hn
  have hn1 : (fs.map (·.1)).Nodup := (hp.map _).nodup_iff.2 hn2
  have hd : List.drop k l = l[k] :: List.drop (k + 1) l := List.drop_eq_getElem_cons hk
  have hnot : (l[k]).1 ∉ ((fateFs keep (l.take k)).1).map (·.1) := by
    rw [List.map_append, hd, List.map_cons] at hn2
    intro hm
    exact (List.nodup_append.1 hn2).2.2 _ hm _ (by simp) rfl
  have hset : ∀ (A B : Files) (a : ByteArray) (x y : List Sec), a ∉ A.map (·.1) → aset (A ++ (a, x) :: B) a y = A ++ (a, y) :: B := by
    intro A
    induction A with
    | nil => intro B a x y _; simp [aset]
    | cons p A ih =>
      intro B a x y h
      obtain ⟨b, z⟩ := p
      simp only [List.map_cons, List.mem_cons, not_or] at h
      simp only [List.cons_append, aset, if_neg h.1, ih B a x y h.2]
  refine ⟨?_, ?_⟩
  · unfold Files.at
    rw [aget_perm hp hn1, aget_of_mem hn2 (y := (l[k]).2) (List.mem_append_right _ (by rw [hd]; exact List.mem_cons_self))]; rfl
  · refine (aset_perm hp hn1 _ _).trans ?_
    rw [hd, show l[k] = ((l[k]).1, (l[k]).2) from rfl, hset _ _ _ _ _ hnot, fateFs_succ hk]
    simp [fateFsStep]
end Go.Proofs.YtppefblkmgihoaaDoor
