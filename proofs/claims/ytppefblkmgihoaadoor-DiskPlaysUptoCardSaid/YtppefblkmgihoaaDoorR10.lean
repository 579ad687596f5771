/- Bytes cut into sectors. -/
import Derived.Test.YtppefblkmgihoaaDoorR9
set_option linter.unusedVariables false
set_option linter.unusedSimpArgs false
set_option maxRecDepth 10000
namespace Go.Proofs.YtppefblkmgihoaaDoor
open Go.Sh

def pad32 (l : List UInt8) : List UInt8 := l ++ List.replicate (32 - l.length) 0
def secsN : Nat → List UInt8 → List Sec
  | 0, _ => []
  | n + 1, ps => ⟨pad32 (ps.take 32), false⟩ :: secsN n (ps.drop 32)
def nsec (ps : List UInt8) : Nat := (ps.length + 31) / 32
/-- The sectors of bytes that are appended. -/
def secsOf (ps : List UInt8) : List Sec := secsN (nsec ps) ps
theorem secsN_len : ∀ (n : Nat) (ps : List UInt8), (secsN n ps).length = n := by
  intro n
  induction n with
  | zero => intro _; rfl
  | succ n ih => intro ps; simp [secsN, ih]
theorem secsN_32 : ∀ (n : Nat) (ps : List UInt8), ∀ s ∈ secsN n ps, s.by_.length = 32 := by
  intro n
  induction n with
  | zero => intro _ s hs; cases hs
  | succ n ih =>
    intro ps s hs
    rcases List.mem_cons.1 hs with rfl | hs
    · simp [pad32]; omega
    · exact ih _ s hs
theorem secsN_flags : ∀ (n : Nat) (ps : List UInt8), Secs.flags (secsN n ps) = List.replicate n false := by
  intro n
  induction n with
  | zero => intro _; rfl
  | succ n ih => intro ps; simp only [secsN, Secs.flags, List.map_cons, List.replicate_succ]; congr 1; exact ih _
theorem secsN_bytes : ∀ (n : Nat) (ps : List UInt8), ps.length ≤ 32 * n → 32 * n < ps.length + 32 → Secs.bytes (secsN n ps) = ps ++ List.replicate (32 * n - ps.length) 0 := by
  intro n
  induction n with
  | zero => intro ps h _; have := List.eq_nil_of_length_eq_zero (Nat.le_zero.1 (by simpa using h)); subst this; rfl
  | succ n ih =>
    intro ps h1 h2
    have hb : Secs.bytes (secsN (n + 1) ps) = pad32 (ps.take 32) ++ Secs.bytes (secsN n (ps.drop 32)) := by simp only [secsN, Secs.bytes, List.flatMap_cons]
    rw [hb]
    rcases Nat.lt_or_ge ps.length 32 with h3 | h3
    · have : n = 0 := by omega
      subst this
      simp only [secsN, Secs.bytes, List.flatMap_nil, List.append_nil, pad32]
      rw [List.take_of_length_le (by omega)]
    · have hd : (ps.drop 32).length = ps.length - 32 := List.length_drop
      have hp : pad32 (ps.take 32) = ps.take 32 := by
        unfold pad32
        rw [List.length_take, Nat.min_eq_left h3]; simp
      rcases Nat.eq_zero_or_pos (ps.length - 32) with h4 | h4
      · have : ps.drop 32 = [] := List.eq_nil_of_length_eq_zero (by omega)
        have hn : n = 0 := by omega
        subst hn
        simp only [secsN, Secs.bytes, List.flatMap_nil, List.append_nil, hp]
        rw [List.take_of_length_le (by omega), show 32 * (0 + 1) - ps.length = 0 by omega]; simp
      · rw [ih _ (by omega) (by omega), hp, ← List.append_assoc, List.take_append_drop, hd]
        congr 2; omega
theorem secsOf_len (ps : List UInt8) : (secsOf ps).length = nsec ps := secsN_len _ _
theorem secsOf_bytes (ps : List UInt8) : Secs.bytes (secsOf ps) = ps ++ List.replicate (32 * nsec ps - ps.length) 0 := secsN_bytes _ _ (by unfold nsec; omega) (by unfold nsec; omega)
theorem bytes_app (l m : List Sec) : Secs.bytes (l ++ m) = Secs.bytes l ++ Secs.bytes m := by simp [Secs.bytes]
theorem flags_app (l m : List Sec) : Secs.flags (l ++ m) = Secs.flags l ++ Secs.flags m := by simp [Secs.flags]

/-- The reference's Append, behind the look at the name. -/
def Rk.append (X : Rk) (a : ByteArray) (ps : List UInt8) : Int × Rk :=
  if isName a = false then (1, X)
  else if X.room < ((nsec ps + X.fs.total : Nat) : Int) ∨ (aget X.fs a = none ∧ 64 ≤ X.fs.length) then (17, X)
  else if X.off then (18, X)
  else if X.armed = 1 then (18, { ({ X with fs := X.fs.put (a, X.fs.at a ++ secsOf ps) } : Rk).count with last := 0 })
  else (0, ({ X with fs := X.fs.put (a, X.fs.at a ++ secsOf ps) } : Rk).count)
end Go.Proofs.YtppefblkmgihoaaDoor
