/-
  The environment of the abstract machine for ClightKnown: read off the program; what the texts' programs are as objects, as a run made them (proved elsewhere); facts on types, each by the kernel.
-/
import Derived.Test.YtdanfdimpcldiaaGreatDoorProg
import Derived.Test.YtdanfdimpcldiaaGreatDoorAm61
import Derived.KernelRfl
set_option maxRecDepth 100000
set_option linter.unusedSimpArgs false
set_option linter.unusedVariables false
set_option maxHeartbeats 0
namespace Go.Proofs.YtdanfdimpcldiaaGreatDoor
open Go.Am
set_option maxRecDepth 100000
def ext : FuncId → Option (List AV → Option AV) := tabOf [(192, extIndexByteString)]
def prims1 : FuncId → Option (List AV → AHeap → Option (Out × AHeap)) := fun _ => Option.none
noncomputable def env1 : Env := envOf Tryz.prog ext prims1
def toldA : ToldT := ⟨[105, 110, 116, 32, 109, 97, 105, 110, 40, 41, 123, 105, 110, 116, 32, 120, 59, 114, 101, 116, 117, 114, 110, 32, 120, 43, 49, 59, 125], .ptr (some (492, 0)), 963, [
  (492, .cells true 0 [.ptr (some (259, 0)), .slice none 0, .slice (some (614, 0)) 1, .int .i64 0]),
  (582, .cells true 0 [.str [109, 97, 105, 110], .str [105, 110, 116], .slice none 0, .slice none 0, .slice (some (757, 0)) 1, .ptr (some (619, 0))]),
  (614, .cells true 1 [.ptr (some (582, 0))]),
  (619, .cells true 0 [.int .i64 1, .ptr none, .ptr none, .ptr none, .slice (some (961, 0)) 2]),
  (633, .cells true 0 [.int .i64 3, .ptr (some (701, 0)), .ptr none, .ptr none, .slice none 0]),
  (701, .cells true 0 [.str [120], .str [105, 110, 116], .int .i64 4, .bool false, .bool false, .bool true]),
  (757, .cells true 1 [.ptr (some (701, 0))]),
  (774, .cells true 0 [.int .i64 10, .ptr none, .ptr none, .ptr (some (960, 0)), .slice none 0]),
  (864, .cells true 0 [.int .i64 2, .str [105, 110, 116], .int .i64 0, .int .i64 0, .int .i64 0, .bool false, .ptr (some (701, 0)), .slice none 0]),
  (906, .cells true 0 [.int .i64 1, .str [105, 110, 116], .int .i64 0, .int .i64 1, .int .i64 0, .bool false, .ptr none, .slice none 0]),
  (908, .cells true 1 [.ptr (some (864, 0)), .ptr (some (906, 0))]),
  (909, .cells true 0 [.int .i64 11, .str [105, 110, 116], .int .i64 11, .int .i64 0, .int .i64 0, .bool false, .ptr none, .slice (some (908, 0)) 2]),
  (959, .cells true 1 [.ptr (some (909, 0))]),
  (960, .cells true 0 [.int .i64 15, .str [105, 110, 116], .int .i64 0, .int .i64 1, .int .i64 0, .bool false, .ptr none, .slice (some (959, 0)) 1]),
  (961, .cells true 1 [.ptr (some (633, 0)), .ptr (some (774, 0))])]⟩
def toldB : ToldT := ⟨[105, 110, 116, 32, 109, 97, 105, 110, 40, 41, 123, 105, 110, 116, 32, 120, 59, 114, 101, 116, 117, 114, 110, 32, 120, 59, 125], .ptr (some (374, 0)), 786, [
  (374, .cells true 0 [.ptr (some (223, 0)), .slice none 0, .slice (some (496, 0)) 1, .int .i64 0]),
  (464, .cells true 0 [.str [109, 97, 105, 110], .str [105, 110, 116], .slice none 0, .slice none 0, .slice (some (639, 0)) 1, .ptr (some (501, 0))]),
  (496, .cells true 1 [.ptr (some (464, 0))]),
  (501, .cells true 0 [.int .i64 1, .ptr none, .ptr none, .ptr none, .slice (some (784, 0)) 2]),
  (515, .cells true 0 [.int .i64 3, .ptr (some (583, 0)), .ptr none, .ptr none, .slice none 0]),
  (583, .cells true 0 [.str [120], .str [105, 110, 116], .int .i64 4, .bool false, .bool false, .bool true]),
  (639, .cells true 1 [.ptr (some (583, 0))]),
  (656, .cells true 0 [.int .i64 10, .ptr none, .ptr none, .ptr (some (783, 0)), .slice none 0]),
  (718, .cells true 0 [.int .i64 2, .str [105, 110, 116], .int .i64 0, .int .i64 0, .int .i64 0, .bool false, .ptr (some (583, 0)), .slice none 0]),
  (782, .cells true 1 [.ptr (some (718, 0))]),
  (783, .cells true 0 [.int .i64 15, .str [105, 110, 116], .int .i64 0, .int .i64 1, .int .i64 0, .bool false, .ptr none, .slice (some (782, 0)) 1]),
  (784, .cells true 1 [.ptr (some (515, 0)), .ptr (some (656, 0))])]⟩
def toldC : ToldT := ⟨[105, 110, 116, 32, 109, 97, 105, 110, 40, 41, 123, 119, 104, 105, 108, 101, 40, 49, 41, 59, 114, 101, 116, 117, 114, 110, 32, 48, 59, 125], .ptr (some (498, 0)), 789, [
  (498, .cells true 0 [.ptr (some (256, 0)), .slice none 0, .slice (some (620, 0)) 1, .int .i64 0]),
  (588, .cells true 0 [.str [109, 97, 105, 110], .str [105, 110, 116], .slice none 0, .slice none 0, .slice none 0, .ptr (some (625, 0))]),
  (620, .cells true 1 [.ptr (some (588, 0))]),
  (625, .cells true 0 [.int .i64 1, .ptr none, .ptr none, .ptr none, .slice (some (787, 0)) 2]),
  (639, .cells true 0 [.int .i64 7, .ptr none, .ptr none, .ptr (some (650, 0)), .slice (some (685, 0)) 1]),
  (650, .cells true 0 [.int .i64 1, .str [105, 110, 116], .int .i64 0, .int .i64 1, .int .i64 0, .bool false, .ptr none, .slice none 0]),
  (684, .cells true 0 [.int .i64 2, .ptr none, .ptr none, .ptr none, .slice none 0]),
  (685, .cells true 1 [.ptr (some (684, 0))]),
  (700, .cells true 0 [.int .i64 10, .ptr none, .ptr none, .ptr (some (786, 0)), .slice none 0]),
  (751, .cells true 0 [.int .i64 1, .str [105, 110, 116], .int .i64 0, .int .i64 0, .int .i64 0, .bool false, .ptr none, .slice none 0]),
  (785, .cells true 1 [.ptr (some (751, 0))]),
  (786, .cells true 0 [.int .i64 15, .str [105, 110, 116], .int .i64 0, .int .i64 1, .int .i64 0, .bool false, .ptr none, .slice (some (785, 0)) 1]),
  (787, .cells true 1 [.ptr (some (639, 0)), .ptr (some (700, 0))])]⟩
def toldD : ToldT := ⟨[105, 110, 116, 32, 102, 40, 41, 123, 114, 101, 116, 117, 114, 110, 32, 102, 40, 41, 59, 125, 105, 110, 116, 32, 109, 97, 105, 110, 40, 41, 123, 114, 101, 116, 117, 114, 110, 32, 102, 40, 41, 59, 125], .ptr (some (617, 0)), 1157, [
  (617, .cells true 0 [.ptr (some (374, 0)), .slice none 0, .slice (some (854, 0)) 2, .int .i64 1]),
  (707, .cells true 0 [.str [102], .str [105, 110, 116], .slice none 0, .slice none 0, .slice none 0, .ptr (some (859, 0))]),
  (822, .cells true 0 [.str [109, 97, 105, 110], .str [105, 110, 116], .slice none 0, .slice none 0, .slice none 0, .ptr (some (1008, 0))]),
  (854, .cells true 1 [.ptr (some (707, 0)), .ptr (some (822, 0))]),
  (859, .cells true 0 [.int .i64 1, .ptr none, .ptr none, .ptr none, .slice (some (1006, 0)) 1]),
  (873, .cells true 0 [.int .i64 10, .ptr none, .ptr none, .ptr (some (1005, 0)), .slice none 0]),
  (970, .cells true 0 [.int .i64 16, .str [105, 110, 116], .int .i64 0, .int .i64 0, .int .i64 0, .bool false, .ptr none, .slice none 0]),
  (1004, .cells true 1 [.ptr (some (970, 0))]),
  (1005, .cells true 0 [.int .i64 15, .str [105, 110, 116], .int .i64 0, .int .i64 1, .int .i64 0, .bool false, .ptr none, .slice (some (1004, 0)) 1]),
  (1006, .cells true 1 [.ptr (some (873, 0))]),
  (1008, .cells true 0 [.int .i64 1, .ptr none, .ptr none, .ptr none, .slice (some (1155, 0)) 1]),
  (1022, .cells true 0 [.int .i64 10, .ptr none, .ptr none, .ptr (some (1154, 0)), .slice none 0]),
  (1119, .cells true 0 [.int .i64 16, .str [105, 110, 116], .int .i64 0, .int .i64 0, .int .i64 0, .bool false, .ptr none, .slice none 0]),
  (1153, .cells true 1 [.ptr (some (1119, 0))]),
  (1154, .cells true 0 [.int .i64 15, .str [105, 110, 116], .int .i64 0, .int .i64 1, .int .i64 0, .bool false, .ptr none, .slice (some (1153, 0)) 1]),
  (1155, .cells true 1 [.ptr (some (1022, 0))])]⟩
def toldF : ToldT := ⟨[105, 110, 116, 32, 109, 97, 105, 110, 40, 41, 123, 108, 111, 110, 103, 32, 97, 59, 108, 111, 110, 103, 32, 98, 59, 114, 101, 116, 117, 114, 110, 32, 38, 97, 61, 61, 38, 98, 59, 125], .ptr (some (653, 0)), 1377, [
  (653, .cells true 0 [.ptr (some (333, 0)), .slice none 0, .slice (some (775, 0)) 1, .int .i64 0]),
  (743, .cells true 0 [.str [109, 97, 105, 110], .str [105, 110, 116], .slice none 0, .slice none 0, .slice (some (1059, 0)) 2, .ptr (some (780, 0))]),
  (775, .cells true 1 [.ptr (some (743, 0))]),
  (780, .cells true 0 [.int .i64 1, .ptr none, .ptr none, .ptr none, .slice (some (1375, 0)) 3]),
  (794, .cells true 0 [.int .i64 3, .ptr (some (862, 0)), .ptr none, .ptr none, .slice none 0]),
  (862, .cells true 0 [.str [97], .str [108, 111, 110, 103], .int .i64 8, .bool false, .bool true, .bool true]),
  (935, .cells true 0 [.int .i64 3, .ptr (some (1003, 0)), .ptr none, .ptr none, .slice none 0]),
  (1003, .cells true 0 [.str [98], .str [108, 111, 110, 103], .int .i64 8, .bool false, .bool true, .bool true]),
  (1059, .cells true 1 [.ptr (some (862, 0)), .ptr (some (1003, 0))]),
  (1076, .cells true 0 [.int .i64 10, .ptr none, .ptr none, .ptr (some (1374, 0)), .slice none 0]),
  (1166, .cells true 0 [.int .i64 2, .str [108, 111, 110, 103], .int .i64 0, .int .i64 0, .int .i64 0, .bool false, .ptr (some (862, 0)), .slice none 0]),
  (1217, .cells true 1 [.ptr (some (1166, 0))]),
  (1218, .cells true 0 [.int .i64 8, .str [108, 111, 110, 103, 42], .int .i64 0, .int .i64 0, .int .i64 0, .bool false, .ptr none, .slice (some (1217, 0)) 1]),
  (1241, .cells true 0 [.int .i64 2, .str [108, 111, 110, 103], .int .i64 0, .int .i64 0, .int .i64 0, .bool false, .ptr (some (1003, 0)), .slice none 0]),
  (1292, .cells true 1 [.ptr (some (1241, 0))]),
  (1293, .cells true 0 [.int .i64 8, .str [108, 111, 110, 103, 42], .int .i64 0, .int .i64 0, .int .i64 0, .bool false, .ptr none, .slice (some (1292, 0)) 1]),
  (1295, .cells true 1 [.ptr (some (1218, 0)), .ptr (some (1293, 0))]),
  (1296, .cells true 0 [.int .i64 11, .str [105, 110, 116], .int .i64 21, .int .i64 0, .int .i64 0, .bool false, .ptr none, .slice (some (1295, 0)) 2]),
  (1373, .cells true 1 [.ptr (some (1296, 0))]),
  (1374, .cells true 0 [.int .i64 15, .str [105, 110, 116], .int .i64 0, .int .i64 1, .int .i64 0, .bool false, .ptr none, .slice (some (1373, 0)) 1]),
  (1375, .cells true 1 [.ptr (some (794, 0)), .ptr (some (935, 0)), .ptr (some (1076, 0))])]⟩
def toldE : ToldT := ⟨[105, 110, 116, 32, 109, 97, 105, 110, 40, 105, 110, 116, 32, 97, 41, 123, 32, 108, 111, 110, 103, 32, 120, 32, 61, 32, 97, 59, 32, 119, 104, 105, 108, 101, 32, 40, 97, 41, 32, 123, 32, 111, 117, 116, 40, 120, 41, 59, 32, 97, 32, 61, 32, 97, 32, 45, 32, 49, 59, 32, 125, 32, 114, 101, 116, 117, 114, 110, 32, 120, 32, 47, 32, 51, 59, 32, 125], .ptr (some (1422, 0)), 2587, [
  (1422, .cells true 0 [.ptr (some (732, 0)), .slice none 0, .slice (some (1601, 0)) 1, .int .i64 0]),
  (1512, .cells true 0 [.str [109, 97, 105, 110], .str [105, 110, 116], .slice (some (1555, 0)) 1, .slice (some (1570, 0)) 1, .slice (some (1853, 0)) 2, .ptr (some (1715, 0))]),
  (1555, .cells true 1 [.str [105, 110, 116]]),
  (1570, .cells true 1 [.bool false]),
  (1601, .cells true 1 [.ptr (some (1512, 0))]),
  (1656, .cells true 0 [.str [97], .str [105, 110, 116], .int .i64 4, .bool true, .bool false, .bool true]),
  (1715, .cells true 0 [.int .i64 1, .ptr none, .ptr none, .ptr none, .slice (some (2585, 0)) 3]),
  (1729, .cells true 0 [.int .i64 3, .ptr (some (1797, 0)), .ptr none, .ptr (some (1970, 0)), .slice none 0]),
  (1797, .cells true 0 [.str [120], .str [108, 111, 110, 103], .int .i64 8, .bool false, .bool false, .bool true]),
  (1853, .cells true 1 [.ptr (some (1656, 0)), .ptr (some (1797, 0))]),
  (1905, .cells true 0 [.int .i64 2, .str [105, 110, 116], .int .i64 0, .int .i64 0, .int .i64 0, .bool false, .ptr (some (1656, 0)), .slice none 0]),
  (1969, .cells true 1 [.ptr (some (1905, 0))]),
  (1970, .cells true 0 [.int .i64 15, .str [108, 111, 110, 103], .int .i64 0, .int .i64 1, .int .i64 0, .bool false, .ptr none, .slice (some (1969, 0)) 1]),
  (1985, .cells true 0 [.int .i64 7, .ptr none, .ptr none, .ptr (some (2007, 0)), .slice (some (2383, 0)) 1]),
  (2007, .cells true 0 [.int .i64 2, .str [105, 110, 116], .int .i64 0, .int .i64 0, .int .i64 0, .bool false, .ptr (some (1656, 0)), .slice none 0]),
  (2071, .cells true 0 [.int .i64 1, .ptr none, .ptr none, .ptr none, .slice (some (2382, 0)) 2]),
  (2085, .cells true 0 [.int .i64 11, .ptr none, .ptr none, .ptr (some (2107, 0)), .slice none 0]),
  (2107, .cells true 0 [.int .i64 2, .str [108, 111, 110, 103], .int .i64 0, .int .i64 0, .int .i64 0, .bool false, .ptr (some (1797, 0)), .slice none 0]),
  (2165, .cells true 0 [.int .i64 4, .ptr none, .ptr (some (2177, 0)), .ptr (some (2381, 0)), .slice none 0]),
  (2177, .cells true 0 [.int .i64 2, .str [105, 110, 116], .int .i64 0, .int .i64 0, .int .i64 0, .bool false, .ptr (some (1656, 0)), .slice none 0]),
  (2285, .cells true 0 [.int .i64 2, .str [105, 110, 116], .int .i64 0, .int .i64 0, .int .i64 0, .bool false, .ptr (some (1656, 0)), .slice none 0]),
  (2327, .cells true 0 [.int .i64 1, .str [105, 110, 116], .int .i64 0, .int .i64 1, .int .i64 0, .bool false, .ptr none, .slice none 0]),
  (2329, .cells true 1 [.ptr (some (2285, 0)), .ptr (some (2327, 0))]),
  (2330, .cells true 0 [.int .i64 11, .str [105, 110, 116], .int .i64 12, .int .i64 0, .int .i64 0, .bool false, .ptr none, .slice (some (2329, 0)) 2]),
  (2380, .cells true 1 [.ptr (some (2330, 0))]),
  (2381, .cells true 0 [.int .i64 15, .str [105, 110, 116], .int .i64 0, .int .i64 1, .int .i64 0, .bool false, .ptr none, .slice (some (2380, 0)) 1]),
  (2382, .cells true 1 [.ptr (some (2085, 0)), .ptr (some (2165, 0))]),
  (2383, .cells true 1 [.ptr (some (2071, 0))]),
  (2398, .cells true 0 [.int .i64 10, .ptr none, .ptr none, .ptr (some (2584, 0)), .slice none 0]),
  (2488, .cells true 0 [.int .i64 2, .str [108, 111, 110, 103], .int .i64 0, .int .i64 0, .int .i64 0, .bool false, .ptr (some (1797, 0)), .slice none 0]),
  (2530, .cells true 0 [.int .i64 1, .str [105, 110, 116], .int .i64 0, .int .i64 3, .int .i64 0, .bool false, .ptr none, .slice none 0]),
  (2532, .cells true 1 [.ptr (some (2488, 0)), .ptr (some (2530, 0))]),
  (2533, .cells true 0 [.int .i64 11, .str [108, 111, 110, 103], .int .i64 14, .int .i64 0, .int .i64 0, .bool false, .ptr none, .slice (some (2532, 0)) 2]),
  (2583, .cells true 1 [.ptr (some (2533, 0))]),
  (2584, .cells true 0 [.int .i64 15, .str [105, 110, 116], .int .i64 4, .int .i64 1, .int .i64 0, .bool false, .ptr none, .slice (some (2583, 0)) 1]),
  (2585, .cells true 1 [.ptr (some (1729, 0)), .ptr (some (1985, 0)), .ptr (some (2398, 0))])]⟩

def tolds : List ToldT := [toldA, toldB, toldC, toldD, toldF, toldE]
theorem und_all (t : TypeId) : env1.und t = Tryz.prog.underlying t := by unfold env1; rfl
theorem siz2 : env1.siz 2 = some 1 := by kernel_rfl
theorem byt2 : env1.byt 2 = some 7 := by kernel_rfl
theorem agg2 : env1.isAgg 2 = some false := by kernel_rfl
theorem zer2 : env1.zer 2 = some [.int .i64 (0)] := by kernel_rfl
theorem siz3 : env1.siz 3 = some 1 := by kernel_rfl
theorem byt3 : env1.byt 3 = some 7 := by kernel_rfl
theorem agg3 : env1.isAgg 3 = some false := by kernel_rfl
theorem zer3 : env1.zer 3 = some [.int .i64 (0)] := by kernel_rfl
theorem siz4 : env1.siz 4 = some 1 := by kernel_rfl
theorem byt4 : env1.byt 4 = some 0 := by kernel_rfl
theorem agg4 : env1.isAgg 4 = some false := by kernel_rfl
theorem zer4 : env1.zer 4 = some [.bool false] := by kernel_rfl
theorem siz9 : env1.siz 9 = some 1 := by kernel_rfl
theorem byt9 : env1.byt 9 = some 15 := by kernel_rfl
theorem agg9 : env1.isAgg 9 = some false := by kernel_rfl
theorem zer9 : env1.zer 9 = some [.str []] := by kernel_rfl
theorem siz24 : env1.siz 24 = some 1 := by kernel_rfl
theorem byt24 : env1.byt 24 = some 23 := by kernel_rfl
theorem agg24 : env1.isAgg 24 = some false := by kernel_rfl
theorem zer24 : env1.zer 24 = some [.slice none 0] := by kernel_rfl
theorem siz26 : env1.siz 26 = some 5 := by kernel_rfl
theorem byt26 : env1.byt 26 = some 71 := by kernel_rfl
theorem agg26 : env1.isAgg 26 = some true := by kernel_rfl
theorem zer26 : env1.zer 26 = some [.int .i64 (0), .int .i64 (0), .slice none 0, .slice none 0, .int .i64 (0)] := by kernel_rfl
theorem siz30 : env1.siz 30 = some 1 := by kernel_rfl
theorem byt30 : env1.byt 30 = some 7 := by kernel_rfl
theorem agg30 : env1.isAgg 30 = some false := by kernel_rfl
theorem zer30 : env1.zer 30 = some [.ptr none] := by kernel_rfl
theorem siz35 : env1.siz 35 = some 3 := by kernel_rfl
theorem byt35 : env1.byt 35 = some 23 := by kernel_rfl
theorem agg35 : env1.isAgg 35 = some true := by kernel_rfl
theorem zer35 : env1.zer 35 = some [.int .i64 (0), .int .i64 (0), .int .i64 (0)] := by kernel_rfl
theorem siz42 : env1.siz 42 = some 4 := by kernel_rfl
theorem byt42 : env1.byt 42 = some 79 := by kernel_rfl
theorem agg42 : env1.isAgg 42 = some true := by kernel_rfl
theorem zer42 : env1.zer 42 = some [.str [], .str [], .slice none 0, .slice none 0] := by kernel_rfl
theorem siz44 : env1.siz 44 = some 1 := by kernel_rfl
theorem byt44 : env1.byt 44 = some 7 := by kernel_rfl
theorem agg44 : env1.isAgg 44 = some false := by kernel_rfl
theorem zer44 : env1.zer 44 = some [.ptr none] := by kernel_rfl
theorem siz45 : env1.siz 45 = some 1 := by kernel_rfl
theorem byt45 : env1.byt 45 = some 7 := by kernel_rfl
theorem agg45 : env1.isAgg 45 = some false := by kernel_rfl
theorem zer45 : env1.zer 45 = some [.ptr none] := by kernel_rfl
theorem siz47 : env1.siz 47 = some 1 := by kernel_rfl
theorem byt47 : env1.byt 47 = some 7 := by kernel_rfl
theorem agg47 : env1.isAgg 47 = some false := by kernel_rfl
theorem zer47 : env1.zer 47 = some [.ptr none] := by kernel_rfl
theorem siz51 : env1.siz 51 = some 12 := by kernel_rfl
theorem byt51 : env1.byt 51 = some 143 := by kernel_rfl
theorem agg51 : env1.isAgg 51 = some true := by kernel_rfl
theorem zer51 : env1.zer 51 = some [.ptr none, .ptr none, .ptr none, .int .i64 (0), .int .i64 (0), .int .i64 (0), .slice none 0, .slice none 0, .int .i64 (0), .slice none 0, .int .i64 (0), .int .i64 (0)] := by kernel_rfl
theorem siz63 : env1.siz 63 = some 1 := by kernel_rfl
theorem byt63 : env1.byt 63 = some 23 := by kernel_rfl
theorem agg63 : env1.isAgg 63 = some false := by kernel_rfl
theorem zer63 : env1.zer 63 = some [.slice none 0] := by kernel_rfl
theorem siz64 : env1.siz 64 = some 1 := by kernel_rfl
theorem byt64 : env1.byt 64 = some 7 := by kernel_rfl
theorem agg64 : env1.isAgg 64 = some false := by kernel_rfl
theorem zer64 : env1.zer 64 = some [.ptr none] := by kernel_rfl
theorem siz66 : env1.siz 66 = some 6 := by kernel_rfl
theorem byt66 : env1.byt 66 = some 111 := by kernel_rfl
theorem agg66 : env1.isAgg 66 = some true := by kernel_rfl
theorem zer66 : env1.zer 66 = some [.str [], .str [], .slice none 0, .slice none 0, .slice none 0, .ptr none] := by kernel_rfl
theorem siz67 : env1.siz 67 = some 1 := by kernel_rfl
theorem byt67 : env1.byt 67 = some 7 := by kernel_rfl
theorem agg67 : env1.isAgg 67 = some false := by kernel_rfl
theorem zer67 : env1.zer 67 = some [.ptr none] := by kernel_rfl
theorem siz69 : env1.siz 69 = some 1 := by kernel_rfl
theorem byt69 : env1.byt 69 = some 23 := by kernel_rfl
theorem agg69 : env1.isAgg 69 = some false := by kernel_rfl
theorem zer69 : env1.zer 69 = some [.slice none 0] := by kernel_rfl
theorem siz71 : env1.siz 71 = some 4 := by kernel_rfl
theorem byt71 : env1.byt 71 = some 63 := by kernel_rfl
theorem agg71 : env1.isAgg 71 = some true := by kernel_rfl
theorem zer71 : env1.zer 71 = some [.ptr none, .slice none 0, .slice none 0, .int .i64 (0)] := by kernel_rfl
theorem siz79 : env1.siz 79 = some 1 := by kernel_rfl
theorem byt79 : env1.byt 79 = some 7 := by kernel_rfl
theorem agg79 : env1.isAgg 79 = some true := by kernel_rfl
theorem zer79 : env1.zer 79 = some [.int .i64 (0)] := by kernel_rfl
theorem siz88 : env1.siz 88 = some 1 := by kernel_rfl
theorem byt88 : env1.byt 88 = some 23 := by kernel_rfl
theorem agg88 : env1.isAgg 88 = some false := by kernel_rfl
theorem zer88 : env1.zer 88 = some [.slice none 0] := by kernel_rfl
theorem siz90 : env1.siz 90 = some 3 := by kernel_rfl
theorem byt90 : env1.byt 90 = some 23 := by kernel_rfl
theorem agg90 : env1.isAgg 90 = some true := by kernel_rfl
theorem zer90 : env1.zer 90 = some [.int .i64 (0), .int .i64 (0), .int .i64 (0)] := by kernel_rfl
theorem siz131 : env1.siz 131 = some 1 := by kernel_rfl
theorem byt131 : env1.byt 131 = some 7 := by kernel_rfl
theorem agg131 : env1.isAgg 131 = some false := by kernel_rfl
theorem zer131 : env1.zer 131 = some [.map none] := by kernel_rfl
theorem siz132 : env1.siz 132 = some 1 := by kernel_rfl
theorem byt132 : env1.byt 132 = some 7 := by kernel_rfl
theorem agg132 : env1.isAgg 132 = some false := by kernel_rfl
theorem zer132 : env1.zer 132 = some [.map none] := by kernel_rfl
theorem siz134 : env1.siz 134 = some 6 := by kernel_rfl
theorem byt134 : env1.byt 134 = some 47 := by kernel_rfl
theorem agg134 : env1.isAgg 134 = some true := by kernel_rfl
theorem zer134 : env1.zer 134 = some [.ptr none, .map none, .map none, .int .i64 (0), .int .i64 (0), .int .i64 (0)] := by kernel_rfl
theorem siz135 : env1.siz 135 = some 1 := by kernel_rfl
theorem byt135 : env1.byt 135 = some 7 := by kernel_rfl
theorem agg135 : env1.isAgg 135 = some false := by kernel_rfl
theorem zer135 : env1.zer 135 = some [.ptr none] := by kernel_rfl
theorem siz137 : env1.siz 137 = some 6 := by kernel_rfl
theorem byt137 : env1.byt 137 = some 47 := by kernel_rfl
theorem agg137 : env1.isAgg 137 = some true := by kernel_rfl
theorem zer137 : env1.zer 137 = some [.str [], .str [], .int .i64 (0), .bool false, .bool false, .bool false] := by kernel_rfl
theorem siz177 : env1.siz 177 = some 1 := by kernel_rfl
theorem byt177 : env1.byt 177 = some 7 := by kernel_rfl
theorem agg177 : env1.isAgg 177 = some false := by kernel_rfl
theorem zer177 : env1.zer 177 = some [.ptr none] := by kernel_rfl
theorem siz178 : env1.siz 178 = some 1 := by kernel_rfl
theorem byt178 : env1.byt 178 = some 23 := by kernel_rfl
theorem agg178 : env1.isAgg 178 = some false := by kernel_rfl
theorem zer178 : env1.zer 178 = some [.slice none 0] := by kernel_rfl
theorem siz180 : env1.siz 180 = some 5 := by kernel_rfl
theorem byt180 : env1.byt 180 = some 55 := by kernel_rfl
theorem agg180 : env1.isAgg 180 = some true := by kernel_rfl
theorem zer180 : env1.zer 180 = some [.int .i64 (0), .ptr none, .ptr none, .ptr none, .slice none 0] := by kernel_rfl
theorem siz207 : env1.siz 207 = some 1 := by kernel_rfl
theorem byt207 : env1.byt 207 = some 23 := by kernel_rfl
theorem agg207 : env1.isAgg 207 = some false := by kernel_rfl
theorem zer207 : env1.zer 207 = some [.slice none 0] := by kernel_rfl
theorem siz209 : env1.siz 209 = some 8 := by kernel_rfl
theorem byt209 : env1.byt 209 = some 87 := by kernel_rfl
theorem agg209 : env1.isAgg 209 = some true := by kernel_rfl
theorem zer209 : env1.zer 209 = some [.int .i64 (0), .str [], .int .i64 (0), .int .i64 (0), .int .i64 (0), .bool false, .ptr none, .slice none 0] := by kernel_rfl
theorem fn28 : env1.fn 28 = some Tryz.f28 := by kernel_rfl
theorem pr28 : env1.prim 28 = Option.none := by unfold env1; rfl
theorem res28 : Tryz.f28.results.toList = [.cell 6 90] := rfl
theorem fn22 : env1.fn 22 = some Tryz.f22 := by kernel_rfl
theorem pr22 : env1.prim 22 = Option.none := by unfold env1; rfl
theorem res22 : Tryz.f22.results.toList = [] := rfl
theorem fn35 : env1.fn 35 = some Tryz.f35 := by kernel_rfl
theorem pr35 : env1.prim 35 = Option.none := by unfold env1; rfl
theorem res35 : Tryz.f35.results.toList = [] := rfl
theorem fn58 : env1.fn 58 = some Tryz.f58 := by kernel_rfl
theorem pr58 : env1.prim 58 = Option.none := by unfold env1; rfl
theorem res58 : Tryz.f58.results.toList = [] := rfl
theorem fn94 : env1.fn 94 = some Tryz.f94 := by kernel_rfl
theorem pr94 : env1.prim 94 = Option.none := by unfold env1; rfl
theorem res94 : Tryz.f94.results.toList = [] := rfl
theorem fn89 : env1.fn 89 = some Tryz.f89 := by kernel_rfl
theorem pr89 : env1.prim 89 = Option.none := by unfold env1; rfl
theorem res89 : Tryz.f89.results.toList = [.tmp 2] := rfl
theorem fn43 : env1.fn 43 = some Tryz.f43 := by kernel_rfl
theorem pr43 : env1.prim 43 = Option.none := by unfold env1; rfl
theorem res43 : Tryz.f43.results.toList = [.tmp 6] := rfl
theorem fn61 : env1.fn 61 = some Tryz.f61 := by kernel_rfl
theorem pr61 : env1.prim 61 = Option.none := by unfold env1; rfl
theorem res61 : Tryz.f61.results.toList = [.cell 6 90] := rfl
end Go.Proofs.YtdanfdimpcldiaaGreatDoor
