/- The program's disk and the reference's, step by step: plain Lean. -/
import Derived.Test.YtppefblkmgihoaaDoorR13
set_option linter.unusedVariables false
set_option linter.unusedSimpArgs false
namespace Go.Proofs.YtppefblkmgihoaaDoor
open Go.Sh

structure Sim (D : Dk) (X : Rk) : Prop where
  perm : D.fs.Perm X.fs
  sorted : X.fs.sorted
  room : D.room = X.room
  off : D.off = X.off
  armed : D.armed = X.armed
  ops : D.ops = X.ops
  pend : D.off = true → X.pending D.pend ∧ (D.pend = .nothing ∨ aget X.fs D.pend.fst ≠ none)
  total : (X.fs.total : Int) ≤ X.room
  cap : X.room ≤ 65536
  few : X.fs.length ≤ 64
  abound : X.armed < 2 ^ 63

theorem mem_total {l : Files} {p : ByteArray × List Sec} (h : p ∈ l) : p.2.length ≤ l.total := by
  obtain ⟨k, hk, rfl⟩ := List.getElem_of_mem h
  have := total_take l k hk
  omega
theorem Sim.tot {D : Dk} {X : Rk} (h : Sim D X) : X.fs.total ≤ 65536 := by have := h.total; have := h.cap; omega
theorem Sim.ok {D : Dk} {X : Rk} (h : Sim D X) : X.fs.ok := fun p hp => by have := mem_total hp; have := h.tot; unfold small; omega
theorem Sim.xgood {D : Dk} {X : Rk} (h : Sim D X) : X.good := ⟨by have := h.few; unfold small; omega, h.ok, h.abound⟩
theorem Sim.dgood {D : Dk} {X : Rk} (h : Sim D X) : D.good := ⟨fun p hp => h.ok p (h.perm.mem_iff.1 hp), by rw [h.armed]; exact h.abound⟩
theorem Sim.dtot {D : Dk} {X : Rk} (h : Sim D X) : D.fs.total < 2 ^ 36 := by rw [total_perm h.perm]; have := h.tot; omega
theorem Sim.dlen {D : Dk} {X : Rk} (h : Sim D X) : D.fs.length ≤ 64 := by rw [h.perm.length_eq]; exact h.few
theorem Sim.get {D : Dk} {X : Rk} (h : Sim D X) (a : ByteArray) : aget D.fs a = aget X.fs a := aget_perm h.perm ((h.perm.map _).nodup_iff.2 h.sorted.nodup) a
theorem Sim.at {D : Dk} {X : Rk} (h : Sim D X) (a : ByteArray) : D.fs.at a = X.fs.at a := at_perm h.perm h.sorted a

theorem get_perm {l : Files} (hn : (l.map (·.1)).Nodup) {a : ByteArray} {s : List Sec} (h : aget l a = some s) : l.Perm ((a, s) :: l.drop a) := by
  have h1 := aset_cons hn a s
  have h2 : aset l a s = l := by
    clear h1 hn
    induction l with
    | nil => cases h
    | cons p r ih =>
      obtain ⟨b, t⟩ := p
      simp only [aget] at h
      simp only [aset]
      split at h
      · rename_i e; subst e; cases h; rw [if_pos rfl]
      · rename_i e; rw [if_neg e, ih h]
  rw [h2] at h1; exact h1
theorem total_cons (p : ByteArray × List Sec) (l : Files) : Files.total (p :: l) = p.2.length + l.total := by simp [Files.total]
theorem drop_total (l : Files) (a : ByteArray) : (l.drop a).total ≤ l.total := by
  induction l with
  | nil => simp [Files.drop]
  | cons p r ih =>
    unfold Files.drop at *
    rw [List.filter_cons]
    split
    · rw [total_cons, total_cons]; omega
    · rw [total_cons]; omega
theorem put_total {l : Files} (h : l.sorted) (f : ByteArray × List Sec) : (l.put f).total = f.2.length + (l.drop f.1).total ∧ (l.put f).length = 1 + (l.drop f.1).length := by
  have h1 := (put_perm h f).trans (aset_cons h.nodup f.1 f.2)
  refine ⟨by rw [total_perm h1, total_cons], by rw [h1.length_eq]; simp; omega⟩
theorem drop_len (l : Files) (a : ByteArray) : (l.drop a).length ≤ l.length := List.length_filter_le _ _
/-- No operation needs more room. -/
theorem carry_total {l : Files} (hs : l.sorted) (p : Pend) : (p.carry l).total ≤ l.total ∧ (p.carry l).length ≤ l.length := by
  cases p with
  | nothing => exact ⟨Nat.le_refl _, Nat.le_refl _⟩
  | sync a =>
    simp only [Pend.carry]
    cases hg : aget l a with
    | none => exact ⟨Nat.le_refl _, Nat.le_refl _⟩
    | some s =>
      have h1 := put_total hs (a, s.map Sec.sync)
      have h2 := get_perm hs.nodup hg
      have h3 := total_perm h2
      have h4 := h2.length_eq
      rw [total_cons] at h3
      simp only [List.length_cons] at h4
      simp only [List.length_map] at h1
      dsimp only at h1 h3
      exact ⟨by rw [h1.1]; omega, by rw [h1.2]; omega⟩
  | trunc a n =>
    simp only [Pend.carry]
    cases hg : aget l a with
    | none => exact ⟨Nat.le_refl _, Nat.le_refl _⟩
    | some s =>
      have h1 := put_total hs (a, (s.take n).map Sec.sync)
      have h2 := get_perm hs.nodup hg
      have h3 := total_perm h2
      have h4 := h2.length_eq
      rw [total_cons] at h3
      simp only [List.length_cons] at h4
      simp only [List.length_map, List.length_take] at h1
      dsimp only at h1 h3
      exact ⟨by rw [h1.1]; omega, by rw [h1.2]; omega⟩
  | ren a b =>
    simp only [Pend.carry]
    cases hg : aget l a with
    | none => exact ⟨Nat.le_refl _, Nat.le_refl _⟩
    | some s =>
      have h1 := put_total (drop_sorted hs a) (b, s)
      have h2 := get_perm hs.nodup hg
      have h3 := total_perm h2
      have h4 := h2.length_eq
      have h5 := drop_total (l.drop a) b
      have h6 := drop_len (l.drop a) b
      rw [total_cons] at h3
      simp only [List.length_cons] at h4
      dsimp only at h1 h3
      exact ⟨by rw [h1.1]; omega, by rw [h1.2]; omega⟩
  | rem a =>
    simp only [Pend.carry]
    cases hg : aget l a with
    | none => exact ⟨Nat.le_refl _, Nat.le_refl _⟩
    | some s => exact ⟨drop_total _ _, drop_len _ _⟩

theorem sim_fresh (m : Nat) {n : Int} (h1 : 1 ≤ n) (h2 : n ≤ 65536) : Sim (Dk.fresh m n) (Rk.fresh n) :=
  ⟨List.Perm.refl _, List.Pairwise.nil, rfl, rfl, rfl, rfl, (fun h => by cases h), (by show (0 : Int) ≤ n; omega), h2, by show 0 ≤ 64; omega, by show 0 < 2 ^ 63; omega⟩

theorem run_m (D : Dk) (p : Pend) : (D.run p).2.m = D.m := by unfold Dk.run; split <;> rfl
theorem op_m (D : Dk) (a : ByteArray) (p : Pend) : (D.op a p).2.m = D.m := by unfold Dk.op; split; rfl; exact run_m D p
theorem truncate_m (D : Dk) (a : ByteArray) (n : Int) : (D.truncate a n).2.m = D.m := by unfold Dk.truncate; split; rfl; exact op_m D a _
theorem rename_m (D : Dk) (a b : ByteArray) : (D.rename a b).2.m = D.m := by unfold Dk.rename; split; rfl; exact op_m D a _
theorem arm_m (D : Dk) (n : Int) : (D.arm n).2.m = D.m := by unfold Dk.arm; split; rfl; split <;> rfl
theorem append_m (D : Dk) (a : ByteArray) (ps : List UInt8) : (D.append a ps).2.m = D.m := by
  unfold Dk.append; split; rfl; split; rfl; split; rfl; split <;> rfl

theorem sim_run {D : Dk} {X : Rk} (h : Sim D X) (ho : D.off = false) (p : Pend) (hp : p ≠ .nothing) (hn : p.num < 2 ^ 63) (hg : aget X.fs p.fst ≠ none) : (D.run p).1 = (X.step p).1 ∧ Sim (D.run p).2 (X.step p).2 := by
  have hox : X.off = false := by rw [← h.off]; exact ho
  unfold Dk.run Rk.step Dk.goes
  rw [h.armed]
  by_cases ha : X.armed = 1
  · rw [if_pos (by simpa using ha), if_pos ha]
    refine ⟨rfl, ⟨h.perm, h.sorted, h.room, ?_, ?_, ?_, ?_, h.total, h.cap, h.few, ?_⟩⟩
    · simp [Rk.count, ha]
    · simp [Dk.count, Rk.count, h.armed]
    · simp [Dk.count, Rk.count, h.ops]
    · intro _; exact ⟨⟨rfl, fun _ => ⟨rfl, rfl, rfl⟩, hn⟩, .inr hg⟩
    · have := h.abound; simp only [Rk.count]; omega
  · rw [if_neg (by simpa using ha), if_neg ha]
    obtain ⟨h1, h2⟩ := apply_carry h.perm h.sorted p (.inr hg)
    obtain ⟨h3, h4⟩ := carry_total h.sorted p
    refine ⟨rfl, ⟨h1, h2, h.room, ?_, ?_, ?_, ?_, ?_, h.cap, ?_, ?_⟩⟩
    · simp only [Dk.count, Rk.count, ho]
      split
      · rw [hox]
      · simp [ha]
    · simp [Dk.count, Rk.count, h.armed]
    · simp [Dk.count, Rk.count, h.ops]
    · intro hx; simp only [Dk.count] at hx; rw [ho] at hx; cases hx
    · have := h.total; show ((p.carry X.fs).total : Int) ≤ X.room; omega
    · have := h.few; show (p.carry X.fs).length ≤ 64; omega
    · have := h.abound; simp only [Rk.count]; omega
theorem sim_op {D : Dk} {X : Rk} (h : Sim D X) (p : Pend) (hp : p ≠ .nothing) (hn : p.num < 2 ^ 63) : (D.op p.fst p).1 = (X.ask p (!isName p.fst)).1 ∧ Sim (D.op p.fst p).2 (X.ask p (!isName p.fst)).2 := by
  unfold Dk.op Rk.ask Dk.check Rk.operate
  cases hnm : isName p.fst with
  | false => simpa using h
  | true =>
    simp only [Bool.true_eq_false, if_false, Bool.not_true, Bool.false_eq_true, Bool.true_and]
    rw [h.get]
    cases hg : aget X.fs p.fst with
    | none => simpa using h
    | some s =>
      simp only [Option.isNone_some, Bool.false_eq_true, if_false]
      rw [← h.off]
      cases ho : D.off with
      | true => simpa using h
      | false =>
        simp only [Bool.false_eq_true, if_false]
        exact sim_run h ho p hp hn (by rw [hg]; simp)
theorem sim_sync {D : Dk} {X : Rk} (h : Sim D X) (a : ByteArray) : (D.op a (.sync a)).1 = (X.ask (.sync a) (badArgs 1 a ⟨#[]⟩ 0)).1 ∧ Sim (D.op a (.sync a)).2 (X.ask (.sync a) (badArgs 1 a ⟨#[]⟩ 0)).2 := by
  have e : badArgs 1 a ⟨#[]⟩ 0 = !isName a := by simp [badArgs]
  rw [e]; exact sim_op h (.sync a) (by simp) (by simp [Pend.num])
theorem sim_remove {D : Dk} {X : Rk} (h : Sim D X) (a : ByteArray) : (D.op a (.rem a)).1 = (X.ask (.rem a) (badArgs 4 a ⟨#[]⟩ 0)).1 ∧ Sim (D.op a (.rem a)).2 (X.ask (.rem a) (badArgs 4 a ⟨#[]⟩ 0)).2 := by
  have e : badArgs 4 a ⟨#[]⟩ 0 = !isName a := by simp [badArgs]
  rw [e]; exact sim_op h (.rem a) (by simp) (by simp [Pend.num])
theorem sim_rename {D : Dk} {X : Rk} (h : Sim D X) (a b : ByteArray) : (D.rename a b).1 = (X.ask (.ren a b) (badArgs 3 a b 0)).1 ∧ Sim (D.rename a b).2 (X.ask (.ren a b) (badArgs 3 a b 0)).2 := by
  unfold Dk.rename
  cases hb : isName b with
  | false =>
    have e : badArgs 3 a b 0 = true := by simp [badArgs, hb]
    rw [e]; simpa [Rk.ask] using h
  | true =>
    have e : badArgs 3 a b 0 = !isName a := by simp [badArgs, hb]
    rw [e]
    simp only [Bool.true_eq_false, if_false]
    exact sim_op h (.ren a b) (by simp) (by simp [Pend.num])
theorem sim_truncate {D : Dk} {X : Rk} (h : Sim D X) (a : ByteArray) {n : Int} (hn : n < 2 ^ 63) : (D.truncate a n).1 = (X.ask (.trunc a n.toNat) (badArgs 2 a ⟨#[]⟩ n)).1 ∧ Sim (D.truncate a n).2 (X.ask (.trunc a n.toNat) (badArgs 2 a ⟨#[]⟩ n)).2 := by
  unfold Dk.truncate
  by_cases h0 : n < 0
  · have e : badArgs 2 a ⟨#[]⟩ n = true := by simp [badArgs, h0]
    rw [e, if_pos h0]; simpa [Rk.ask] using h
  · have e : badArgs 2 a ⟨#[]⟩ n = !isName a := by simp [badArgs, h0]
    rw [e, if_neg h0]; exact sim_op h (.trunc a n.toNat) (by simp) (by simp only [Pend.num]; omega)
def Rk.arm (X : Rk) (n : Int) : Int × Rk := if n < 0 then (1, X) else if X.off then (18, X) else ((0 : Int), { X with armed := n.toNat })
theorem sim_arm {D : Dk} {X : Rk} (h : Sim D X) {n : Int} (hn : n < 2 ^ 63) : (D.arm n).1 = (X.arm n).1 ∧ Sim (D.arm n).2 (X.arm n).2 := by
  unfold Dk.arm Rk.arm
  rw [← h.off]
  split
  · exact ⟨rfl, h⟩
  · cases ho : D.off with
    | true => exact ⟨rfl, h⟩
    | false =>
      simp only [Bool.false_eq_true, if_false]
      have hox : X.off = false := by rw [← h.off]; exact ho
      refine ⟨trivial, ⟨h.perm, h.sorted, h.room, rfl, rfl, h.ops, fun hx => ?_, h.total, h.cap, h.few, ?_⟩⟩
      · cases hx
      · show n.toNat < 2 ^ 63; omega
theorem sim_append {D : Dk} {X : Rk} (h : Sim D X) (a : ByteArray) (ps : List UInt8) : (D.append a ps).1 = (X.append a ps).1 ∧ Sim (D.append a ps).2 (X.append a ps).2 := by
  have hlen := h.dlen
  have hle := h.perm.length_eq
  unfold Dk.append Rk.append
  rw [h.get, total_perm h.perm, h.room]
  have e1 : (D.fs.length = 64) ↔ (64 ≤ X.fs.length) := by rw [hle]; have := h.few; omega
  simp only [e1]
  rw [← h.off]
  split
  · exact ⟨rfl, h⟩
  split
  · exact ⟨rfl, h⟩
  rename_i hroom
  cases ho : D.off with
  | true => exact ⟨rfl, h⟩
  | false =>
    simp only [Bool.false_eq_true, if_false]
    have hox : X.off = false := by rw [← h.off]; exact ho
    have hperm : (aset D.fs a (D.fs.at a ++ secsOf ps)).Perm (X.fs.put (a, X.fs.at a ++ secsOf ps)) := by rw [h.at]; exact put_aset h.perm h.sorted (a, X.fs.at a ++ secsOf ps)
    have hsort := put_sorted h.sorted (a, X.fs.at a ++ secsOf ps)
    have hpt := put_total h.sorted (a, X.fs.at a ++ secsOf ps)
    have hsl := secsOf_len ps
    have htot : (X.fs.put (a, X.fs.at a ++ secsOf ps)).total = nsec ps + X.fs.total ∧ (X.fs.put (a, X.fs.at a ++ secsOf ps)).length ≤ 64 := by
      have hf := h.few
      cases hg : aget X.fs a with
      | none =>
        have hat : X.fs.at a = [] := by unfold Files.at; rw [hg]; rfl
        have hd : X.fs.drop a = X.fs := by rw [drop_adel h.sorted.nodup, adel_none (aget_none.1 hg)]
        rw [hd, hat] at hpt
        simp only [List.nil_append, List.length_append] at hpt
        rw [hat]
        have : ¬ 64 ≤ X.fs.length := fun hx => hroom (.inr ⟨hg, hx⟩)
        exact ⟨by rw [List.nil_append]; rw [hpt.1]; omega, by rw [List.nil_append]; rw [hpt.2]; omega⟩
      | some s =>
        have hat : X.fs.at a = s := by unfold Files.at; rw [hg]; rfl
        have h2 := get_perm h.sorted.nodup hg
        have h3 := total_perm h2
        have h4 := h2.length_eq
        rw [total_cons] at h3
        simp only [List.length_cons] at h4
        rw [hat] at hpt ⊢
        simp only [List.length_append] at hpt
        dsimp only at h3
        exact ⟨by rw [hpt.1]; omega, by rw [hpt.2]; omega⟩
    have hroom2 : ((X.fs.put (a, X.fs.at a ++ secsOf ps)).total : Int) ≤ X.room := by
      rw [htot.1]
      have := fun hx => hroom (.inl hx)
      omega
    unfold Dk.goes
    rw [h.armed]
    by_cases ha : X.armed = 1
    · rw [if_pos (by simpa using ha), if_pos ha]
      refine ⟨rfl, ⟨hperm, hsort, rfl, ?_, ?_, ?_, ?_, hroom2, h.cap, htot.2, ?_⟩⟩
      · simp [Rk.count, ha]
      · simp [Dk.count, Rk.count, h.armed]
      · simp [Dk.count, Rk.count, h.ops]
      · intro _; exact ⟨⟨rfl, fun hx => absurd rfl hx, by simp [Pend.num]⟩, .inl rfl⟩
      · have := h.abound; simp only [Rk.count]; omega
    · rw [if_neg (by simpa using ha), if_neg ha]
      refine ⟨rfl, ⟨hperm, hsort, rfl, ?_, ?_, ?_, ?_, hroom2, h.cap, htot.2, ?_⟩⟩
      · simp only [Dk.count, Rk.count]
        split
        · rfl
        · simp [ha]
      · simp [Dk.count, Rk.count, h.armed]
      · simp [Dk.count, Rk.count, h.ops]
      · intro hx; cases hx
      · have := h.abound; simp only [Rk.count]; omega

theorem sim_back {D : Dk} {X : Rk} (h : Sim D X) (ho : D.off = true) (done : Bool) : (D.back done).fs.Perm (X.back done D.pend).fs ∧ (X.back done D.pend).fs.sorted ∧ (X.back done D.pend).fs.total ≤ X.fs.total ∧ (X.back done D.pend).fs.length ≤ X.fs.length := by
  unfold Dk.back Rk.back
  cases done with
  | false => exact ⟨h.perm, h.sorted, Nat.le_refl _, Nat.le_refl _⟩
  | true =>
    obtain ⟨h1, h2⟩ := apply_carry h.perm h.sorted D.pend (h.pend ho).2
    obtain ⟨h3, h4⟩ := carry_total h.sorted D.pend
    exact ⟨h1, h2, h3, h4⟩
theorem sim_restart {D : Dk} {X : Rk} (h : Sim D X) (ho : D.off = true) (done : Bool) (keep : List Bool) {fs' : Files} (hf : fs'.Perm (fateFs keep (X.back done D.pend).fs).1) : Sim { D.back done with fs := fs' } { X.back done D.pend with fs := (fateFs keep (X.back done D.pend).fs).1 } := by
  obtain ⟨h1, h2, h3, h4⟩ := sim_back h ho done
  refine ⟨hf, fateFs_sorted h2, h.room, rfl, rfl, h.ops, (fun hx => by cases hx), ?_, h.cap, ?_, by show 0 < 2 ^ 63; omega⟩
  · show (Files.total (fateFs keep (X.back done D.pend).fs).1 : Int) ≤ X.room
    rw [fateFs_total]
    have := h.total; omega
  · show (fateFs keep (X.back done D.pend).fs).1.length ≤ 64
    have := congrArg List.length (fateFs_keys keep (X.back done D.pend).fs)
    simp only [List.length_map] at this
    have := h.few; omega
theorem sim_read {D : Dk} {X : Rk} (h : Sim D X) (a : ByteArray) : (D.read a).1 = (X.read a).1 ∧ (D.read a).2 = (X.read a).2.2 ∧ D.check a true = (X.read a).2.2 ∧ (if D.check a true ≠ 0 then 0 else (D.fs.at a).length) = (X.read a).2.1 := by
  unfold Dk.read Rk.read Dk.check
  rw [h.get, h.at]
  cases hn : isName a with
  | false => simp
  | true =>
    cases hg : aget X.fs a with
    | none => simp
    | some s =>
      have hat : X.fs.at a = s := by unfold Files.at; rw [hg]; rfl
      rw [← h.off, hat]
      cases ho : D.off <;> simp
end Go.Proofs.YtppefblkmgihoaaDoor
