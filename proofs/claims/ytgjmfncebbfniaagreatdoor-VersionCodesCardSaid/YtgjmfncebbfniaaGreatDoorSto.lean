/- A store of files, plain: what package store and its reference do, as functions on data. -/
import Derived.Test.YtgjmfncebbfniaaGreatDoorWords
namespace Go.Proofs.YtgjmfncebbfniaaGreatDoor
set_option maxRecDepth 100000
open Go Go.RowKit

abbrev Nm := List UInt8
structure FileE where
  bytes : List UInt8
  sure : Nat
abbrev Dir := List (Nm × Nat)
inductive Chg where
  | put (n : Nm) (k : Nat)
  | ren (a b : Nm) (k : Nat)
  | del (n : Nm)
structure StoD where
  room : Int
  files : List FileE
  now : Dir
  disk : Dir
  kept : List Chg
  next : List UInt8
  down : Bool

def nmChar (c : UInt8) : Bool := (decide (97 ≤ c) && decide (c ≤ 122)) || ((decide (48 ≤ c) && decide (c ≤ 57)) || (c == 45 || c == 46))
def isNm (s : Nm) : Bool := decide (1 ≤ s.length) && (decide (s.length ≤ 64) && s.all nmChar)
def dFind : Dir → Nm → Option Nat
  | [], _ => none
  | e :: r, n => if e.1 = n then some e.2 else dFind r n
def dWithout (d : Dir) (n : Nm) : Dir := d.filter fun e => decide (e.1 ≠ n)
/-- One entry more, ahead of the first whose name is greater. -/
def dIns : Dir → Nm → Nat → Dir
  | [], n, i => [(n, i)]
  | e :: r, n, i => if Op.bytesLess n e.1 = true then (n, i) :: e :: r else e :: dIns r n i
def dWith (d : Dir) (n : Nm) (i : Nat) : Dir := dIns (dWithout d n) n i
def made : Dir → Chg → Dir
  | d, .put n i => dWith d n i
  | d, .ren a b i => dWith (dWithout d a) b i
  | d, .del n => dWithout d n
def replay (d : Dir) (l : List Chg) : Dir := l.foldl made d

namespace StoD
def file (s : StoD) (k : Nat) : FileE := s.files.getD k ⟨[], 0⟩
def new (room : Int) : StoD := ⟨room, [], [], [], [], [], false⟩
def size (s : StoD) : Nat := (s.now.map fun e => (s.file e.2).bytes.length).sum
def names (s : StoD) : List Nm := s.now.map (·.1)
def read (s : StoD) (n : Nm) : Int × List UInt8 :=
  if s.down = true then (8, []) else if isNm n = false then (1, []) else match dFind s.now n with
    | none => (4, [])
    | some k => (0, (s.file k).bytes)
def plan (s : StoD) (l : List UInt8) : StoD := { s with next := l }
/-- What a change meets. -/
def may (s : StoD) (ok : Bool) : Int × StoD :=
  if ok = false then (1, s) else if s.down = true then (8, s) else match s.next with
    | [] => (0, s)
    | c :: r => if c = 1 then (7, { s with next := r }) else if c = 2 then (8, { s with next := r, down := true }) else (0, { s with next := r })
def change (s : StoD) (c : Chg) : StoD := { s with now := made s.now c, kept := s.kept ++ [c] }
def create (s : StoD) (n : Nm) : Int × StoD :=
  let r := s.may (isNm n)
  if r.1 ≠ 0 then r else if (dFind r.2.now n).isSome then (5, r.2) else (0, ({ r.2 with files := r.2.files ++ [⟨[], 0⟩] } : StoD).change (.put n r.2.files.length))
def append (s : StoD) (n : Nm) (b : List UInt8) : Int × StoD :=
  let r := s.may (isNm n)
  if r.1 ≠ 0 then r else match dFind r.2.now n with
    | none => (4, r.2)
    | some k => if r.2.room - (r.2.size : Int) < (b.length : Int) then (6, r.2) else (0, { r.2 with files := r.2.files.set k ⟨(r.2.file k).bytes ++ b, (r.2.file k).sure⟩ })
def sync (s : StoD) (n : Nm) : Int × StoD :=
  let r := s.may (isNm n)
  if r.1 ≠ 0 then r else match dFind r.2.now n with
    | none => (4, r.2)
    | some k => (0, { r.2 with files := r.2.files.set k ⟨(r.2.file k).bytes, (r.2.file k).bytes.length⟩ })
def rename (s : StoD) (a b : Nm) : Int × StoD :=
  let r := s.may (isNm a && isNm b)
  if r.1 ≠ 0 then r else match dFind r.2.now a with
    | none => (4, r.2)
    | some k => if a = b then (0, r.2) else (0, r.2.change (.ren a b k))
def remove (s : StoD) (n : Nm) : Int × StoD :=
  let r := s.may (isNm n)
  if r.1 ≠ 0 then r else match dFind r.2.now n with
    | none => (4, r.2)
    | some _ => (0, r.2.change (.del n))
def syncDir (s : StoD) : Int × StoD :=
  let r := s.may true
  if r.1 ≠ 0 then r else (0, { r.2 with disk := r.2.now, kept := [] })
/-- How much of a file stays behind a crash. -/
def cutFile (f : FileE) (k : Int) : FileE :=
  let n := f.sure + (max 0 (min k ((f.bytes.length : Int) - f.sure))).toNat
  ⟨f.bytes.take n, n⟩
/-- The files that a directory names are cut, one behind the other. -/
def cuts (keep : List Int) : Nat → Dir → List FileE → List FileE
  | _, [], fs => fs
  | i, e :: r, fs => cuts keep (i + 1) r (fs.set e.2 (cutFile (fs.getD e.2 ⟨[], 0⟩) (keep.getD i 0)))
def crash (s : StoD) (changes : Int) (keep : List Int) : StoD :=
  let d := replay s.disk (s.kept.take changes.toNat)
  ⟨s.room, cuts keep 0 d s.files, d, d, [], [], false⟩
end StoD
end Go.Proofs.YtgjmfncebbfniaaGreatDoor
