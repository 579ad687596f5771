/-
  DERIVED: THE SHELF's CONTRACTS AT THIS DUMP, IN PLAIN WORDS (tools/lay-plain.mjs out of 'TrydShelf.lean', which tools/lay-shelf.mjs wrote): THE SAME DECLARATIONS UNDER THE SAME NAMES: 'import', 'namespace', 'open', 'def', 'theorem' AND NOTHING ELSE: no command of the shelf's: FOR A HAND-IN. Each laying: the table of numbers ('.._ren') and one theorem, a field a fact of the dump's own or the kernel's comparison; each contract: ONE APPLICATION.
-/
import Derived.Shelf.LaysM
import Derived.Shelf.Bytes.Len
import Derived.Shelf.Bytes.TryGrow
import Derived.Shelf.Bytes.GrowSliceCatch
import Derived.Shelf.Bytes.GrowSlice
import Derived.Shelf.Bytes.GrowRow0
import Derived.Shelf.Bytes.GrowRow
import Derived.Shelf.Bytes.GrowNil
import Derived.Shelf.Bytes.Grow
import Derived.Shelf.Bytes.Write
import Derived.Shelf.Bytes.Bytes
import Derived.Shelf.Bytes.GrowRow0Own
import Derived.Shelf.Bytes.GrowRowOwn
import Derived.Shelf.Bytes.GrowNilOwn
import Derived.Shelf.Bytes.GrowOwn
import Derived.Shelf.Bytes.WriteAny
import Derived.Ground.SlgmProg
import Derived.Shelf.SortM.Plain
import Derived.Shelf.SortM.SortNone
import Derived.Test.YtppefblkmgihoaaDoorProg
namespace Go.Proofs
open Go.Shelf
def Tryd.laysM180_ren : Go.Shelf.Ren := ⟨fun | 180 => 42 | 251 => 60 | 252 => 61 | 181 => 66 | 184 => 67 | 290 => 68 | 324 => 72 | n => n, fun | 130 => 107 | 37 => 31 | 3 => 3 | 75 => 90 | 0 => 0 | 93 => 88 | 91 => 86 | 131 => 108 | 4 => 4 | 20 => 20 | 5 => 5 | 80 => 140 | 9 => 9 | n => n, fun | 14 => 0 | n => n⟩
theorem Tryd.laysM180 : Go.Proofs.LaysM.n180 Tryd.prog Tryd.laysM180_ren := {
  mixed := by kernel_rfl
  f180 := Tryd.func42.trans (congrArg some (by kernel_rfl))
  f181 := Tryd.func66.trans (congrArg some (by kernel_rfl))
  f184 := Tryd.func67.trans (congrArg some (by kernel_rfl))
  f251 := Tryd.func60.trans (congrArg some (by kernel_rfl))
  f252 := Tryd.func61.trans (congrArg some (by kernel_rfl))
  f290 := Tryd.func68.trans (congrArg some (by kernel_rfl))
  f324 := Tryd.func72.trans (congrArg some (by kernel_rfl))
  t0 := Tryd.underlying0
  a0 := Tryd.isAgg0
  z0 := Tryd.sizeOf0
  v0 := Tryd.zeroValue0
  t3 := Tryd.underlying3
  a3 := Tryd.isAgg3
  z3 := Tryd.sizeOf3
  v3 := Tryd.zeroValue3
  t4 := Tryd.underlying4
  a4 := Tryd.isAgg4
  z4 := Tryd.sizeOf4
  v4 := Tryd.zeroValue4
  t20 := Tryd.underlying20
  a20 := Tryd.isAgg20
  z20 := Tryd.sizeOf20
  v20 := Tryd.zeroValue20
  t37 := Tryd.underlying31
  a37 := Tryd.isAgg31
  z37 := Tryd.sizeOf31
  v37 := Tryd.zeroValue31
  t75 := Tryd.underlying90
  a75 := Tryd.isAgg90
  z75 := Tryd.sizeOf90
  v75 := Tryd.zeroValue90
  t91 := Tryd.underlying86
  a91 := Tryd.isAgg86
  z91 := Tryd.sizeOf86
  v91 := Tryd.zeroValue86
  t93 := Tryd.underlying88
  a93 := Tryd.isAgg88
  z93 := Tryd.sizeOf88
  v93 := Tryd.zeroValue88
  t130 := Tryd.underlying107
  a130 := Tryd.isAgg107
  z130 := Tryd.sizeOf107
  v130 := Tryd.zeroValue107
  t131 := Tryd.underlying108
  a131 := Tryd.isAgg108
  z131 := Tryd.sizeOf108
  v131 := Tryd.zeroValue108
  g14 := by kernel_rfl
  t5 := Tryd.underlying5
  a5 := Tryd.isAgg5
  z5 := Tryd.sizeOf5
  v5 := Tryd.zeroValue5
  t9 := Tryd.underlying9
  a9 := Tryd.isAgg9
  z9 := Tryd.sizeOf9
  v9 := Tryd.zeroValue9
  t80 := Tryd.underlying140
  a80 := Tryd.isAgg140
  z80 := Tryd.sizeOf140
  v80 := Tryd.zeroValue140
  i0 := by kernel_rfl
  i3 := by kernel_rfl
  i4 := by kernel_rfl
  i5 := by kernel_rfl
  i9 := by kernel_rfl
  i20 := by kernel_rfl
  i37 := by kernel_rfl
  i75 := by kernel_rfl
  i80 := by kernel_rfl
  i91 := by kernel_rfl
  i93 := by kernel_rfl
  i130 := by kernel_rfl
  i131 := by kernel_rfl
  m14 := by kernel_rfl }
def Tryd.laysM183_ren : Go.Shelf.Ren := ⟨fun | 183 => 43 | n => n, fun | 130 => 107 | 37 => 31 | 0 => 0 | 93 => 88 | 3 => 3 | 5 => 5 | 91 => 86 | n => n, fun | n => n⟩
theorem Tryd.laysM183 : Go.Proofs.LaysM.n183 Tryd.prog Tryd.laysM183_ren := {
  mixed := by kernel_rfl
  f183 := Tryd.func43.trans (congrArg some (by kernel_rfl))
  t0 := Tryd.underlying0
  a0 := Tryd.isAgg0
  z0 := Tryd.sizeOf0
  v0 := Tryd.zeroValue0
  t3 := Tryd.underlying3
  a3 := Tryd.isAgg3
  z3 := Tryd.sizeOf3
  v3 := Tryd.zeroValue3
  t37 := Tryd.underlying31
  a37 := Tryd.isAgg31
  z37 := Tryd.sizeOf31
  v37 := Tryd.zeroValue31
  t93 := Tryd.underlying88
  a93 := Tryd.isAgg88
  z93 := Tryd.sizeOf88
  v93 := Tryd.zeroValue88
  t130 := Tryd.underlying107
  a130 := Tryd.isAgg107
  z130 := Tryd.sizeOf107
  v130 := Tryd.zeroValue107
  t5 := Tryd.underlying5
  a5 := Tryd.isAgg5
  z5 := Tryd.sizeOf5
  v5 := Tryd.zeroValue5
  t91 := Tryd.underlying86
  a91 := Tryd.isAgg86
  z91 := Tryd.sizeOf86
  v91 := Tryd.zeroValue86
  i0 := by kernel_rfl
  i3 := by kernel_rfl
  i5 := by kernel_rfl
  i37 := by kernel_rfl
  i91 := by kernel_rfl
  i93 := by kernel_rfl
  i130 := by kernel_rfl }
open Go.RowKit in
/-- (*bytes.Buffer).Bytes: "Bytes returns a slice of length b.Len() holding the unread portion of the buffer. .. The slice aliases the buffer content at least until the next buffer modification": A SLICE THAT OWNS THE CELLS bs ('World.ownsRow': nil where nothing was ever written). The world is as it was but for the count of draws. (LAID: no walk: one application.) -/
theorem Tryd.Buffer_Bytes (B b : Nat) (bs : List Value) (w : World) (h : Lib.IsBuffer 88 5 B b bs w) :
    Calls Tryd.prog 43 #[.pointer (some ⟨b, 0, none⟩)] w fun e w' => ∃ v, e = .returned v ∧ w'.ownsRow B 5 1 v bs.length bs ∧ ∃ n, w' = w.drewN n := Any.Buffer_Bytes Tryd.laysM183 B b bs w h
open Go.RowKit in
/-- (*bytes.Buffer).Write: "Write appends the contents of p to the buffer, growing the buffer as needed. The return value n is the length of p; err is always nil." (LAID: no walk: one application.) -/
theorem Tryd.Buffer_Write_any (B b : Nat) (bs cs : List Value) (a : Addr) (n c : Nat) (w : World) (h : Lib.IsBuffer 88 5 B b bs w) (hBw : B ≤ w.heap.size) (h1 : ∀ v ∈ bs, v.oneCell' = true) (hn : cs.length = n) (hab : a.block ≠ b) (hsrc : ∀ j v, cs[j]? = some v → w.cell? (a.add j) = some v) (h1c : ∀ v ∈ cs, v.oneCell' = true) (hlim : bs.length + n ≤ 140737488355328) :
    Calls Tryd.prog 42 #[.pointer (some ⟨b, 0, none⟩), .slice (some a) n c] w fun e w' => e = .returned (.tuple #[.int .i64 n, .nilIface]) ∧ Lib.IsBuffer 88 5 B b (bs ++ cs) w' ∧ Below B w w' ∧ Lib.OthersKept 5 (some b) w w' := Any.Buffer_Write_any Tryd.laysM180 B b bs cs a n c w h hBw h1 hn hab hsrc h1c hlim
def Tryd.laysSlM6_f64_ren : Go.Shelf.Ren := ⟨fun | 6 => 64 | 8 => 71 | 9 => 70 | 19 => 82 | 20 => 83 | 21 => 73 | 22 => 74 | 23 => 75 | 24 => 76 | 25 => 77 | 26 => 78 | 27 => 79 | 28 => 80 | 29 => 81 | 36 => 84 | 31 => 85 | 32 => 86 | 37 => 87 | 38 => 88 | 39 => 89 | 41 => 90 | n => n, fun | 27 => 71 | 29 => 9 | 3 => 3 | 32 => 117 | 26 => 71 | 0 => 0 | 44 => 127 | 46 => 129 | 4 => 4 | 36 => 120 | 35 => 119 | 41 => 108 | 5 => 5 | 9 => 9 | 53 => 130 | 57 => 134 | 63 => 136 | 64 => 137 | n => n, fun | n => n⟩
theorem Tryd.laysSlM6_f64 : Go.Proofs.SlLaysM.n6 Tryd.prog Tryd.laysSlM6_f64_ren := {
  mixed := by kernel_rfl
  f6 := ⟨Tryd.f64.name, by decide, Tryd.func64.trans (congrArg some (by kernel_rfl))⟩
  f8 := Tryd.func71.trans (congrArg some (by kernel_rfl))
  f9 := ⟨Tryd.f70.name, by decide, Tryd.func70.trans (congrArg some (by kernel_rfl))⟩
  f19 := Tryd.func82.trans (congrArg some (by kernel_rfl))
  f20 := Tryd.func83.trans (congrArg some (by kernel_rfl))
  f21 := ⟨Tryd.f73.name, by decide, Tryd.func73.trans (congrArg some (by kernel_rfl))⟩
  f22 := ⟨Tryd.f74.name, by decide, Tryd.func74.trans (congrArg some (by kernel_rfl))⟩
  f23 := ⟨Tryd.f75.name, by decide, Tryd.func75.trans (congrArg some (by kernel_rfl))⟩
  f24 := ⟨Tryd.f76.name, by decide, Tryd.func76.trans (congrArg some (by kernel_rfl))⟩
  f25 := ⟨Tryd.f77.name, by decide, Tryd.func77.trans (congrArg some (by kernel_rfl))⟩
  f26 := ⟨Tryd.f78.name, by decide, Tryd.func78.trans (congrArg some (by kernel_rfl))⟩
  f27 := ⟨Tryd.f79.name, by decide, Tryd.func79.trans (congrArg some (by kernel_rfl))⟩
  f28 := ⟨Tryd.f80.name, by decide, Tryd.func80.trans (congrArg some (by kernel_rfl))⟩
  f29 := ⟨Tryd.f81.name, by decide, Tryd.func81.trans (congrArg some (by kernel_rfl))⟩
  f31 := Tryd.func85.trans (congrArg some (by kernel_rfl))
  f32 := Tryd.func86.trans (congrArg some (by kernel_rfl))
  f36 := ⟨Tryd.f84.name, by decide, Tryd.func84.trans (congrArg some (by kernel_rfl))⟩
  f37 := ⟨Tryd.f87.name, by decide, Tryd.func87.trans (congrArg some (by kernel_rfl))⟩
  f38 := ⟨Tryd.f88.name, by decide, Tryd.func88.trans (congrArg some (by kernel_rfl))⟩
  f39 := ⟨Tryd.f89.name, by decide, Tryd.func89.trans (congrArg some (by kernel_rfl))⟩
  f41 := ⟨Tryd.f90.name, by decide, Tryd.func90.trans (congrArg some (by kernel_rfl))⟩
  t0 := Tryd.underlying0
  a0 := Tryd.isAgg0
  z0 := Tryd.sizeOf0
  v0 := Tryd.zeroValue0
  t3 := Tryd.underlying3
  a3 := Tryd.isAgg3
  z3 := Tryd.sizeOf3
  v3 := Tryd.zeroValue3
  t4 := Tryd.underlying4
  a4 := Tryd.isAgg4
  z4 := Tryd.sizeOf4
  v4 := Tryd.zeroValue4
  t5 := Tryd.underlying5
  a5 := Tryd.isAgg5
  z5 := Tryd.sizeOf5
  v5 := Tryd.zeroValue5
  t9 := Tryd.underlying9
  a9 := Tryd.isAgg9
  z9 := Tryd.sizeOf9
  v9 := Tryd.zeroValue9
  t26 := Tryd.underlying71
  a26 := Tryd.isAgg71
  z26 := Tryd.sizeOf71
  v26 := Tryd.zeroValue71
  t27 := Tryd.underlying71
  a27 := Tryd.isAgg71
  z27 := Tryd.sizeOf71
  v27 := Tryd.zeroValue71
  t29 := Tryd.underlying9
  a29 := Tryd.isAgg9
  z29 := Tryd.sizeOf9
  v29 := Tryd.zeroValue9
  t32 := Tryd.underlying117
  a32 := Tryd.isAgg117
  z32 := Tryd.sizeOf117
  v32 := Tryd.zeroValue117
  t35 := Tryd.underlying119
  a35 := Tryd.isAgg119
  z35 := Tryd.sizeOf119
  v35 := Tryd.zeroValue119
  t36 := Tryd.underlying120
  a36 := Tryd.isAgg120
  z36 := Tryd.sizeOf120
  v36 := Tryd.zeroValue120
  t41 := Tryd.underlying108
  a41 := Tryd.isAgg108
  z41 := Tryd.sizeOf108
  v41 := Tryd.zeroValue108
  t44 := Tryd.underlying127
  a44 := Tryd.isAgg127
  z44 := Tryd.sizeOf127
  v44 := Tryd.zeroValue127
  t46 := Tryd.underlying129
  a46 := Tryd.isAgg129
  z46 := Tryd.sizeOf129
  v46 := Tryd.zeroValue129
  t53 := Tryd.underlying130
  a53 := Tryd.isAgg130
  z53 := Tryd.sizeOf130
  v53 := Tryd.zeroValue130
  t57 := Tryd.underlying134
  a57 := Tryd.isAgg134
  z57 := Tryd.sizeOf134
  v57 := Tryd.zeroValue134
  t63 := Tryd.underlying136
  a63 := Tryd.isAgg136
  z63 := Tryd.sizeOf136
  v63 := Tryd.zeroValue136
  t64 := Tryd.underlying137
  a64 := Tryd.isAgg137
  z64 := Tryd.sizeOf137
  v64 := Tryd.zeroValue137 }
open Go.Sort Go.RowKit in
theorem Tryd.slices_Sort_string (blk off cap : Nat) (ss : List (List UInt8)) (w : World) (hH : Holds encStr w blk off ss.toArray) (hblk : blk < w.heap.size) (hsz : ss.length < 4611686018427387904) :
    Calls Tryd.prog 64 #[.slice (some ⟨blk, off, none⟩) ss.length cap] w fun e w' =>
      e = .returned (.tuple #[]) ∧ ∃ n os, w' = grow (putRow encStr (Sort.ahead w n) blk off (ss.mergeSort fun x y => decide (x ≤ y)).toArray) os := AnyM.slices_Sort_string Tryd.laysSlM6_f64 blk off cap ss w hH hblk hsz
open Go.RowKit Go.Sort in
/-- .. and plain. (LAID AT THE INSTANCE 'slices.Sort[[]string,string]': no walk: one application.) -/
theorem Tryd.slices_Sort_string_none (p : Option Addr) (cap : Nat) (w : World) :
    Calls Tryd.prog 64 #[.slice p 0 cap] w fun e w' => e = .returned (.tuple #[]) ∧ w' = w := AnyM.slices_Sort_string_none Tryd.laysSlM6_f64 p cap w
end Go.Proofs
