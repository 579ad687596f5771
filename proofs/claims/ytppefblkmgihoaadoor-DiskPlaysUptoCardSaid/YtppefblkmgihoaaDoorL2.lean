/- The program's files and the reference's, side by side: plain Lean. -/
import Derived.Test.YtppefblkmgihoaaDoorL1
set_option linter.unusedVariables false
set_option linter.unusedSimpArgs false
namespace Go.Proofs.YtppefblkmgihoaaDoor
open Go.Sh

theorem aset_cons {l : Files} (hn : (l.map (·.1)).Nodup) (k : ByteArray) (y : List Sec) : (aset l k y).Perm ((k, y) :: l.drop k) := by
  rw [drop_adel hn]
  induction l with
  | nil => exact List.Perm.refl _
  | cons p r ih =>
    obtain ⟨a, b⟩ := p
    simp only [List.map_cons, List.nodup_cons] at hn
    simp only [aset, adel]
    split
    · exact List.Perm.refl _
    · exact ((ih hn.2).cons _).trans (List.Perm.swap _ _ _)
theorem put_perm {l : Files} (h : l.sorted) (f : ByteArray × List Sec) : (l.put f).Perm (aset l f.1 f.2) := by
  refine List.Perm.trans ?_ (aset_cons h.nodup f.1 f.2).symm
  rw [put_eq h]
  refine List.perm_middle.trans (List.Perm.cons _ ?_)
  have h1 := List.filter_append_perm (fun p : ByteArray × List Sec => slt p.1 f.1) (l.drop f.1)
  unfold Files.drop at h1 ⊢
  rw [List.filter_filter, List.filter_filter] at h1
  refine List.Perm.trans (List.Perm.of_eq ?_) h1
  congr 1
  · refine List.filter_congr fun z _ => ?_
    cases hz : slt z.1 f.1 with
    | true => simp [slt_ne hz]
    | false => simp
theorem drop_perm {l m : Files} (hp : l.Perm m) (hn : (l.map (·.1)).Nodup) (a : ByteArray) : (adel l a).Perm (m.drop a) := by
  rw [drop_adel ((hp.map _).nodup_iff.1 hn)]
  exact adel_perm hp hn a
theorem put_aset {l m : Files} (hp : l.Perm m) (hs : m.sorted) (f : ByteArray × List Sec) : (aset l f.1 f.2).Perm (m.put f) :=
  (aset_perm hp ((hp.map _).nodup_iff.2 hs.nodup) f.1 f.2).trans (put_perm hs f).symm
theorem at_perm {l m : Files} (hp : l.Perm m) (hs : m.sorted) (a : ByteArray) : l.at a = m.at a := by
  unfold Files.at; rw [aget_perm hp ((hp.map _).nodup_iff.2 hs.nodup)]
/-- What an operation does to the program's files it does to the reference's. -/
theorem apply_carry {l m : Files} (hp : l.Perm m) (hs : m.sorted) (p : Pend) (h : p = .nothing ∨ aget m p.fst ≠ none) : (p.apply l).Perm (p.carry m) ∧ (p.carry m).sorted := by
  have hn := (hp.map (·.1)).nodup_iff.2 hs.nodup
  cases p with
  | nothing => exact ⟨hp, hs⟩
  | sync a =>
    simp only [Pend.fst, reduceCtorEq, false_or] at h
    obtain ⟨s, hg⟩ := Option.ne_none_iff_exists'.1 h
    have : l.at a = s := by rw [at_perm hp hs]; unfold Files.at; rw [hg]; rfl
    simp only [Pend.apply, Pend.carry, hg, this]
    exact ⟨put_aset hp hs (a, s.map Sec.sync), put_sorted hs _⟩
  | trunc a n =>
    simp only [Pend.fst, reduceCtorEq, false_or] at h
    obtain ⟨s, hg⟩ := Option.ne_none_iff_exists'.1 h
    have : l.at a = s := by rw [at_perm hp hs]; unfold Files.at; rw [hg]; rfl
    simp only [Pend.apply, Pend.carry, hg, this]
    exact ⟨put_aset hp hs (a, (s.take n).map Sec.sync), put_sorted hs _⟩
  | ren a b =>
    simp only [Pend.fst, reduceCtorEq, false_or] at h
    obtain ⟨s, hg⟩ := Option.ne_none_iff_exists'.1 h
    have : l.at a = s := by rw [at_perm hp hs]; unfold Files.at; rw [hg]; rfl
    simp only [Pend.apply, Pend.carry, hg, this]
    exact ⟨put_aset (drop_perm hp hn a) (drop_sorted hs a) (b, s), put_sorted (drop_sorted hs a) _⟩
  | rem a =>
    simp only [Pend.fst, reduceCtorEq, false_or] at h
    obtain ⟨s, hg⟩ := Option.ne_none_iff_exists'.1 h
    simp only [Pend.apply, Pend.carry, hg]
    exact ⟨drop_perm hp hn a, drop_sorted hs a⟩
end Go.Proofs.YtppefblkmgihoaaDoor
