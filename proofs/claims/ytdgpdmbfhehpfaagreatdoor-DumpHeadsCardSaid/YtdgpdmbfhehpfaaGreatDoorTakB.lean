/-
  The run of 'taken': what it starts with.
-/
import Derived.Test.YtdgpdmbfhehpfaaGreatDoorProg
import Derived.Test.YtdgpdmbfhehpfaaGreatDoorEvP
namespace Go.Proofs.YtdgpdmbfhehpfaaGreatDoor
open Ev

def tabA : List AVal := [.int .u32 0, .int .u32 498536548, .int .u32 997073096, .int .u32 651767980, .int .u32 1994146192, .int .u32 1802195444, .int .u32 1303535960, .int .u32 1342533948, .int .u32 3988292384, .int .u32 4027552580, .int .u32 3604390888, .int .u32 3412177804, .int .u32 2607071920, .int .u32 2262029012, .int .u32 2685067896, .int .u32 3183342108]
def signA : List AVal := [.str ⟨#[58, 45]⟩, .int .i64 9, .int .i64 0, .str ⟨#[33, 61]⟩, .int .i64 11, .int .i64 2, .str ⟨#[60, 61]⟩, .int .i64 11, .int .i64 4, .str ⟨#[62, 61]⟩, .int .i64 11, .int .i64 6, .str ⟨#[60]⟩, .int .i64 11, .int .i64 3, .str ⟨#[62]⟩, .int .i64 11, .int .i64 5, .str ⟨#[61]⟩, .int .i64 11, .int .i64 1, .str ⟨#[40]⟩, .int .i64 5, .int .i64 0, .str ⟨#[41]⟩, .int .i64 6, .int .i64 0, .str ⟨#[44]⟩, .int .i64 7, .int .i64 0, .str ⟨#[46]⟩, .int .i64 8, .int .i64 0]
def tabV : List Value := [.int .u32 0, .int .u32 498536548, .int .u32 997073096, .int .u32 651767980, .int .u32 1994146192, .int .u32 1802195444, .int .u32 1303535960, .int .u32 1342533948, .int .u32 3988292384, .int .u32 4027552580, .int .u32 3604390888, .int .u32 3412177804, .int .u32 2607071920, .int .u32 2262029012, .int .u32 2685067896, .int .u32 3183342108]
def signV : List Value := [.string ⟨#[58, 45]⟩, .int .i64 9, .int .i64 0, .string ⟨#[33, 61]⟩, .int .i64 11, .int .i64 2, .string ⟨#[60, 61]⟩, .int .i64 11, .int .i64 4, .string ⟨#[62, 61]⟩, .int .i64 11, .int .i64 6, .string ⟨#[60]⟩, .int .i64 11, .int .i64 3, .string ⟨#[62]⟩, .int .i64 11, .int .i64 5, .string ⟨#[61]⟩, .int .i64 11, .int .i64 1, .string ⟨#[40]⟩, .int .i64 5, .int .i64 0, .string ⟨#[41]⟩, .int .i64 6, .int .i64 0, .string ⟨#[44]⟩, .int .i64 7, .int .i64 0, .string ⟨#[46]⟩, .int .i64 8, .int .i64 0]

noncomputable def prm : Prm := ⟨[0, 2], [92], plansT⟩

/-- the two variables that are read -/
noncomputable def h0 : Heap := (((⟨.e, 9⟩ : Heap).put 0 (.cells tabA 117 true false)).put 2 (.cells [.slice 8 0 11 (.rest 0)] 477 true false)).put 8 (.cells signA 479 true false)

def isTrue : Option (AVal × Heap) → Bool
  | some (.bool true, _) => true
  | _ => false

theorem isTrue_some {x : Option (AVal × Heap)} (h : isTrue x = true) : ∃ h', x = some (.bool true, h') := by
  unfold isTrue at h
  split at h
  · exact ⟨_, rfl⟩
  · cases h

end Go.Proofs.YtdgpdmbfhehpfaaGreatDoor
