/-
  The environments of the abstract machine for CheckKnown's runs: read off the program; the library's strconv.FormatInt, and what is proved of single texts, told by Lean functions. Nothing is proved here.
-/
import Derived.Test.YtockpdlnfpaddaaGreatDoorProg
import Derived.Test.YtockpdlnfpaddaaGreatDoorAm52
namespace Go.Proofs.YtockpdlnfpaddaaGreatDoor
open Go.Am
def ext : FuncId → Option (List AV → Option AV) := tabOf [(140, extIndexByteString)]
def txt0 : List UInt8 := [105, 110, 116, 32, 102, 40, 41, 123, 114, 101, 116, 117, 114, 110, 32, 48, 59, 125]
def txt1 : List UInt8 := [105, 110, 116, 32, 109, 97, 105, 110, 40, 41, 123, 98, 114, 101, 97, 107, 59, 125]
def txt2 : List UInt8 := [105, 110, 116, 32, 109, 97, 105, 110, 40, 41, 123, 105, 110, 116, 32, 97, 59, 105, 110, 116, 32, 97, 59, 114, 101, 116, 117, 114, 110, 32, 48, 59, 125]
def txt3 : List UInt8 := [105, 110, 116, 32, 109, 97, 105, 110, 40, 41, 123, 123, 105, 110, 116, 32, 97, 59, 125, 114, 101, 116, 117, 114, 110, 32, 97, 59, 125]
def txt4 : List UInt8 := [105, 110, 116, 32, 109, 97, 105, 110, 40, 41, 123, 105, 110, 116, 42, 112, 59, 114, 101, 116, 117, 114, 110, 32, 112, 59, 125]
def txt5 : List UInt8 := [105, 110, 116, 32, 109, 97, 105, 110, 40, 41, 123, 108, 111, 110, 103, 42, 112, 59, 105, 110, 116, 42, 113, 59, 114, 101, 116, 117, 114, 110, 32, 112, 61, 61, 113, 59, 125]
def txt6 : List UInt8 := [118, 111, 105, 100, 32, 109, 97, 105, 110, 40, 41, 123, 125]
def txt7 : List UInt8 := [105, 110, 116, 32, 109, 97, 105, 110, 40, 105, 110, 116, 42, 112, 41, 123, 114, 101, 116, 117, 114, 110, 32, 48, 59, 125]
def txt8 : List UInt8 := [105, 110, 116, 32, 109, 97, 105, 110, 40, 41, 123, 118, 111, 105, 100, 42, 112, 59, 114, 101, 116, 117, 114, 110, 32, 42, 112, 59, 125]
def txt9 : List UInt8 := [115, 116, 114, 117, 99, 116, 32, 115, 123, 105, 110, 116, 32, 97, 59, 125, 59, 105, 110, 116, 32, 109, 97, 105, 110, 40, 41, 123, 115, 116, 114, 117, 99, 116, 32, 115, 32, 120, 59, 120, 61, 120, 59, 114, 101, 116, 117, 114, 110, 32, 48, 59, 125]
def txt10 : List UInt8 := [105, 110, 116, 32, 109, 97, 105, 110, 40, 41, 123, 114, 101, 116, 117, 114, 110, 32, 102, 40, 41, 59, 125]
def txt11 : List UInt8 := [105, 110, 116, 32, 109, 97, 105, 110, 40, 41, 123, 49, 61, 50, 59, 114, 101, 116, 117, 114, 110, 32, 48, 59, 125]
def txt12 : List UInt8 := [105, 110, 116, 32, 109, 97, 105, 110, 40, 41, 123, 105, 110, 116, 32, 97, 91, 50, 93, 59, 97, 61, 48, 59, 114, 101, 116, 117, 114, 110, 32, 48, 59, 125]
def txt13 : List UInt8 := [105, 110, 116, 32, 109, 97, 105, 110, 40, 41, 123, 99, 104, 97, 114, 32, 120, 91, 55, 48, 48, 48, 48, 93, 59, 114, 101, 116, 117, 114, 110, 32, 48, 59, 125]
def txts : List (List UInt8 × Nat) := [(txt0, 5), (txt1, 5), (txt2, 5), (txt3, 5), (txt4, 5), (txt5, 5), (txt6, 5), (txt7, 5), (txt8, 5), (txt9, 5), (txt10, 5), (txt11, 5), (txt12, 5), (txt13, 2)]
noncomputable section
def prims1 : FuncId → Option (List AV → AHeap → Option (Out × AHeap)) := tabOf [(111, fmtPrim)]
def prims2 : FuncId → Option (List AV → AHeap → Option (Out × AHeap)) := tabOf [(111, fmtPrim), (4, truePrim), (5, txtPrim txts)]
def env1 : Env := envOf Tryz.prog ext prims1
def env2 : Env := envOf Tryz.prog ext prims2
end
end Go.Proofs.YtockpdlnfpaddaaGreatDoor
