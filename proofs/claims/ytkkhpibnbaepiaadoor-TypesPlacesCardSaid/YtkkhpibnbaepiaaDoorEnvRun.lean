/-
  The environments of the abstract machine for law 6's statements with arguments: read off the program; the library's functions on strings, and 'awake', told by Lean functions. Facts on the program's types, each by the kernel.
-/
import Derived.Test.YtkkhpibnbaepiaaDoorProg
import Derived.Test.YtkkhpibnbaepiaaDoorAm60
import Derived.KernelRfl
namespace Go.Proofs.YtkkhpibnbaepiaaDoor
open Go.Am
set_option maxRecDepth 100000
def ext : FuncId → Option (List AV → Option AV) := tabOf [(49, extIndexByteString)]
noncomputable def prims0 : FuncId → Option (List AV → AHeap → Option (Out × AHeap)) := fun _ => Option.none
noncomputable def prims : FuncId → Option (List AV → AHeap → Option (Out × AHeap)) := tabOf [(6, truePrim), (22, valPrim ibF), (30, valPrim ibF), (23, valPrim trimF), (25, valPrim cutSF), (26, atoiPrim 96), (27, valPrim trimRF), (28, valPrim cutPF)]
noncomputable def env0 : Env := envOf Tryd.prog ext prims0
noncomputable def env : Env := envOf Tryd.prog ext prims
theorem und_all (t : TypeId) : env.und t = Tryd.prog.underlying t := by unfold env; rfl
theorem siz3 : env.siz 3 = some 1 := by kernel_rfl
theorem byt3 : env.byt 3 = some 7 := by kernel_rfl
theorem agg3 : env.isAgg 3 = some false := by kernel_rfl
theorem zer3 : env.zer 3 = some [.int .i64 (0)] := by kernel_rfl
theorem siz4 : env.siz 4 = some 1 := by kernel_rfl
theorem byt4 : env.byt 4 = some 0 := by kernel_rfl
theorem agg4 : env.isAgg 4 = some false := by kernel_rfl
theorem zer4 : env.zer 4 = some [.bool false] := by kernel_rfl
theorem siz5 : env.siz 5 = some 1 := by kernel_rfl
theorem byt5 : env.byt 5 = some 0 := by kernel_rfl
theorem agg5 : env.isAgg 5 = some false := by kernel_rfl
theorem zer5 : env.zer 5 = some [.int .u8 (0)] := by kernel_rfl
theorem siz9 : env.siz 9 = some 1 := by kernel_rfl
theorem byt9 : env.byt 9 = some 15 := by kernel_rfl
theorem agg9 : env.isAgg 9 = some false := by kernel_rfl
theorem zer9 : env.zer 9 = some [.str []] := by kernel_rfl
theorem siz23 : env.siz 23 = some 1 := by kernel_rfl
theorem byt23 : env.byt 23 = some 7 := by kernel_rfl
theorem agg23 : env.isAgg 23 = some false := by kernel_rfl
theorem zer23 : env.zer 23 = some [.ptr none] := by kernel_rfl
theorem siz24 : env.siz 24 = some 1 := by kernel_rfl
theorem byt24 : env.byt 24 = some 7 := by kernel_rfl
theorem agg24 : env.isAgg 24 = some false := by kernel_rfl
theorem zer24 : env.zer 24 = some [.int .i64 (0)] := by kernel_rfl
theorem siz31 : env.siz 31 = some 1 := by kernel_rfl
theorem byt31 : env.byt 31 = some 23 := by kernel_rfl
theorem agg31 : env.isAgg 31 = some false := by kernel_rfl
theorem zer31 : env.zer 31 = some [.slice none 0] := by kernel_rfl
theorem siz38 : env.siz 38 = some 1 := by kernel_rfl
theorem byt38 : env.byt 38 = some 23 := by kernel_rfl
theorem agg38 : env.isAgg 38 = some false := by kernel_rfl
theorem zer38 : env.zer 38 = some [.slice none 0] := by kernel_rfl
theorem siz39 : env.siz 39 = some 2 := by kernel_rfl
theorem byt39 : env.byt 39 = some 39 := by kernel_rfl
theorem agg39 : env.isAgg 39 = some true := by kernel_rfl
theorem zer39 : env.zer 39 = some [.str [], .slice none 0] := by kernel_rfl
theorem siz40 : env.siz 40 = some 2 := by kernel_rfl
theorem byt40 : env.byt 40 = some 39 := by kernel_rfl
theorem agg40 : env.isAgg 40 = some true := by kernel_rfl
theorem zer40 : env.zer 40 = some [.str [], .slice none 0] := by kernel_rfl
theorem siz41 : env.siz 41 = some 3 := by kernel_rfl
theorem byt41 : env.byt 41 = some 39 := by kernel_rfl
theorem agg41 : env.isAgg 41 = some true := by kernel_rfl
theorem zer41 : env.zer 41 = some [.str [], .str [], .int .i64 (0)] := by kernel_rfl
theorem siz42 : env.siz 42 = some 3 := by kernel_rfl
theorem byt42 : env.byt 42 = some 39 := by kernel_rfl
theorem agg42 : env.isAgg 42 = some true := by kernel_rfl
theorem zer42 : env.zer 42 = some [.str [], .str [], .int .i64 (0)] := by kernel_rfl
theorem siz45 : env.siz 45 = some 1 := by kernel_rfl
theorem byt45 : env.byt 45 = some 7 := by kernel_rfl
theorem agg45 : env.isAgg 45 = some false := by kernel_rfl
theorem zer45 : env.zer 45 = some [.map none] := by kernel_rfl
theorem siz46 : env.siz 46 = some 1 := by kernel_rfl
theorem byt46 : env.byt 46 = some 7 := by kernel_rfl
theorem agg46 : env.isAgg 46 = some false := by kernel_rfl
theorem zer46 : env.zer 46 = some [.map none] := by kernel_rfl
theorem siz48 : env.siz 48 = some 2 := by kernel_rfl
theorem byt48 : env.byt 48 = some 15 := by kernel_rfl
theorem agg48 : env.isAgg 48 = some true := by kernel_rfl
theorem zer48 : env.zer 48 = some [.map none, .map none] := by kernel_rfl
theorem siz50 : env.siz 50 = some 3 := by kernel_rfl
theorem byt50 : env.byt 50 = some 39 := by kernel_rfl
theorem agg50 : env.isAgg 50 = some true := by kernel_rfl
theorem zer50 : env.zer 50 = some [.slice none 0, .int .i64 (0), .int .i64 (0)] := by kernel_rfl
theorem siz55 : env.siz 55 = some 2 := by kernel_rfl
theorem byt55 : env.byt 55 = some 31 := by kernel_rfl
theorem agg55 : env.isAgg 55 = some true := by kernel_rfl
theorem zer55 : env.zer 55 = some [.str [], .str []] := by kernel_rfl
theorem siz57 : env.siz 57 = some 5 := by kernel_rfl
theorem byt57 : env.byt 57 = some 55 := by kernel_rfl
theorem agg57 : env.isAgg 57 = some true := by kernel_rfl
theorem zer57 : env.zer 57 = some [.str [], .str [], .int .i64 (0), .bool false, .int .i64 (0)] := by kernel_rfl
theorem siz67 : env.siz 67 = some 1 := by kernel_rfl
theorem byt67 : env.byt 67 = some 15 := by kernel_rfl
theorem agg67 : env.isAgg 67 = some false := by kernel_rfl
theorem zer67 : env.zer 67 = some [.nilIface] := by kernel_rfl
theorem fn5 : env.fn 5 = some Tryd.f5 := by kernel_rfl
theorem pr5 : env.prim 5 = Option.none := by unfold env; rfl
theorem fn7 : env.fn 7 = some Tryd.f7 := by kernel_rfl
theorem pr7 : env.prim 7 = Option.none := by unfold env; rfl
theorem fn9 : env.fn 9 = some Tryd.f9 := by kernel_rfl
theorem pr9 : env.prim 9 = Option.none := by unfold env; rfl
theorem fn10 : env.fn 10 = some Tryd.f10 := by kernel_rfl
theorem pr10 : env.prim 10 = Option.none := by unfold env; rfl
theorem fn15 : env.fn 15 = some Tryd.f15 := by kernel_rfl
theorem pr15 : env.prim 15 = Option.none := by unfold env; rfl
theorem fn16 : env.fn 16 = some Tryd.f16 := by kernel_rfl
theorem pr16 : env.prim 16 = Option.none := by unfold env; rfl
theorem fn17 : env.fn 17 = some Tryd.f17 := by kernel_rfl
theorem pr17 : env.prim 17 = Option.none := by unfold env; rfl
theorem fn18 : env.fn 18 = some Tryd.f18 := by kernel_rfl
theorem pr18 : env.prim 18 = Option.none := by unfold env; rfl
theorem fn24 : env.fn 24 = some Tryd.f24 := by kernel_rfl
theorem pr24 : env.prim 24 = Option.none := by unfold env; rfl
theorem fn38 : env.fn 38 = some Tryd.f38 := by kernel_rfl
theorem pr38 : env.prim 38 = Option.none := by unfold env; rfl
theorem fn54 : env.fn 54 = some Tryd.f54 := by kernel_rfl
theorem pr54 : env.prim 54 = Option.none := by unfold env; rfl
end Go.Proofs.YtkkhpibnbaepiaaDoor
