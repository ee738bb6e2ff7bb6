/- The functions of the text as a table. No condition. What the library functions of strings answer, laid out of the shelf. No condition. strings.Count and strings.Index at one byte, as contracts for runs on terms. No condition. The law's first test of the assembler, run on terms. No condition. -/
import Derived.Test.YtoiffpoffnlebaaDoorPack7
import Derived.Test.YtoiffpoffnlebaaDoorProg
import Derived.Shelf.Small.Strs
import Derived.Shelf.Small.Wraps
import Derived.Shelf.Strings.Search1
import Derived.Shelf.Strings.Search2
import Derived.Shelf.Strings.Search3
import Derived.Shelf.Strings.Count
import Derived.Shelf.LaysM
import Derived.Shelf.Strings.Shaped
import Derived.Shelf.Strings.Prefix
import Derived.Shelf.Strings.Split
import Derived.Shelf.Unicode.DecodeSlow
section
set_option linter.unusedVariables false
namespace Go.Proofs.YtoiffpoffnlebaaDoor.Sx
open Go
theorem fn2 : FnOk Tryd.prog 2 Tryd.f2 := ⟨Tryd.func2, by kernel_rfl, _, rfl⟩
theorem fn3 : FnOk Tryd.prog 3 Tryd.f3 := ⟨Tryd.func3, by kernel_rfl, _, rfl⟩
theorem fn4 : FnOk Tryd.prog 4 Tryd.f4 := ⟨Tryd.func4, by kernel_rfl, _, rfl⟩
theorem fn5 : FnOk Tryd.prog 5 Tryd.f5 := ⟨Tryd.func5, by kernel_rfl, _, rfl⟩
theorem fn6 : FnOk Tryd.prog 6 Tryd.f6 := ⟨Tryd.func6, by kernel_rfl, _, rfl⟩
theorem fn7 : FnOk Tryd.prog 7 Tryd.f7 := ⟨Tryd.func7, by kernel_rfl, _, rfl⟩
theorem fn8 : FnOk Tryd.prog 8 Tryd.f8 := ⟨Tryd.func8, by kernel_rfl, _, rfl⟩
theorem fn9 : FnOk Tryd.prog 9 Tryd.f9 := ⟨Tryd.func9, by kernel_rfl, _, rfl⟩
theorem fn10 : FnOk Tryd.prog 10 Tryd.f10 := ⟨Tryd.func10, by kernel_rfl, _, rfl⟩
theorem fn11 : FnOk Tryd.prog 11 Tryd.f11 := ⟨Tryd.func11, by kernel_rfl, _, rfl⟩
theorem fn12 : FnOk Tryd.prog 12 Tryd.f12 := ⟨Tryd.func12, by kernel_rfl, _, rfl⟩
theorem fn13 : FnOk Tryd.prog 13 Tryd.f13 := ⟨Tryd.func13, by kernel_rfl, _, rfl⟩
theorem fn14 : FnOk Tryd.prog 14 Tryd.f14 := ⟨Tryd.func14, by kernel_rfl, _, rfl⟩
theorem fn15 : FnOk Tryd.prog 15 Tryd.f15 := ⟨Tryd.func15, by kernel_rfl, _, rfl⟩
theorem fn16 : FnOk Tryd.prog 16 Tryd.f16 := ⟨Tryd.func16, by kernel_rfl, _, rfl⟩
theorem fn17 : FnOk Tryd.prog 17 Tryd.f17 := ⟨Tryd.func17, by kernel_rfl, _, rfl⟩
theorem fn18 : FnOk Tryd.prog 18 Tryd.f18 := ⟨Tryd.func18, by kernel_rfl, _, rfl⟩
theorem fn19 : FnOk Tryd.prog 19 Tryd.f19 := ⟨Tryd.func19, by kernel_rfl, _, rfl⟩
theorem fn20 : FnOk Tryd.prog 20 Tryd.f20 := ⟨Tryd.func20, by kernel_rfl, _, rfl⟩
theorem fn21 : FnOk Tryd.prog 21 Tryd.f21 := ⟨Tryd.func21, by kernel_rfl, _, rfl⟩
theorem fn22 : FnOk Tryd.prog 22 Tryd.f22 := ⟨Tryd.func22, by kernel_rfl, _, rfl⟩
theorem fn23 : FnOk Tryd.prog 23 Tryd.f23 := ⟨Tryd.func23, by kernel_rfl, _, rfl⟩
theorem fn24 : FnOk Tryd.prog 24 Tryd.f24 := ⟨Tryd.func24, by kernel_rfl, _, rfl⟩
theorem fn25 : FnOk Tryd.prog 25 Tryd.f25 := ⟨Tryd.func25, by kernel_rfl, _, rfl⟩
theorem fn26 : FnOk Tryd.prog 26 Tryd.f26 := ⟨Tryd.func26, by kernel_rfl, _, rfl⟩
theorem fn27 : FnOk Tryd.prog 27 Tryd.f27 := ⟨Tryd.func27, by kernel_rfl, _, rfl⟩
theorem fn28 : FnOk Tryd.prog 28 Tryd.f28 := ⟨Tryd.func28, by kernel_rfl, _, rfl⟩
theorem fn29 : FnOk Tryd.prog 29 Tryd.f29 := ⟨Tryd.func29, by kernel_rfl, _, rfl⟩
theorem fn30 : FnOk Tryd.prog 30 Tryd.f30 := ⟨Tryd.func30, by kernel_rfl, _, rfl⟩
theorem fn31 : FnOk Tryd.prog 31 Tryd.f31 := ⟨Tryd.func31, by kernel_rfl, _, rfl⟩
theorem fn32 : FnOk Tryd.prog 32 Tryd.f32 := ⟨Tryd.func32, by kernel_rfl, _, rfl⟩
theorem fn33 : FnOk Tryd.prog 33 Tryd.f33 := ⟨Tryd.func33, by kernel_rfl, _, rfl⟩
theorem fn34 : FnOk Tryd.prog 34 Tryd.f34 := ⟨Tryd.func34, by kernel_rfl, _, rfl⟩
theorem fn35 : FnOk Tryd.prog 35 Tryd.f35 := ⟨Tryd.func35, by kernel_rfl, _, rfl⟩
theorem fn36 : FnOk Tryd.prog 36 Tryd.f36 := ⟨Tryd.func36, by kernel_rfl, _, rfl⟩
theorem fn37 : FnOk Tryd.prog 37 Tryd.f37 := ⟨Tryd.func37, by kernel_rfl, _, rfl⟩
theorem fn38 : FnOk Tryd.prog 38 Tryd.f38 := ⟨Tryd.func38, by kernel_rfl, _, rfl⟩
theorem fn39 : FnOk Tryd.prog 39 Tryd.f39 := ⟨Tryd.func39, by kernel_rfl, _, rfl⟩
theorem fn40 : FnOk Tryd.prog 40 Tryd.f40 := ⟨Tryd.func40, by kernel_rfl, _, rfl⟩
theorem fn41 : FnOk Tryd.prog 41 Tryd.f41 := ⟨Tryd.func41, by kernel_rfl, _, rfl⟩
theorem fn42 : FnOk Tryd.prog 42 Tryd.f42 := ⟨Tryd.func42, by kernel_rfl, _, rfl⟩
theorem fn43 : FnOk Tryd.prog 43 Tryd.f43 := ⟨Tryd.func43, by kernel_rfl, _, rfl⟩
theorem fn44 : FnOk Tryd.prog 44 Tryd.f44 := ⟨Tryd.func44, by kernel_rfl, _, rfl⟩
theorem fn45 : FnOk Tryd.prog 45 Tryd.f45 := ⟨Tryd.func45, by kernel_rfl, _, rfl⟩
theorem fn46 : FnOk Tryd.prog 46 Tryd.f46 := ⟨Tryd.func46, by kernel_rfl, _, rfl⟩
theorem fn47 : FnOk Tryd.prog 47 Tryd.f47 := ⟨Tryd.func47, by kernel_rfl, _, rfl⟩
theorem fn48 : FnOk Tryd.prog 48 Tryd.f48 := ⟨Tryd.func48, by kernel_rfl, _, rfl⟩
theorem fn49 : FnOk Tryd.prog 49 Tryd.f49 := ⟨Tryd.func49, by kernel_rfl, _, rfl⟩
theorem fn50 : FnOk Tryd.prog 50 Tryd.f50 := ⟨Tryd.func50, by kernel_rfl, _, rfl⟩
theorem fn51 : FnOk Tryd.prog 51 Tryd.f51 := ⟨Tryd.func51, by kernel_rfl, _, rfl⟩
theorem fn52 : FnOk Tryd.prog 52 Tryd.f52 := ⟨Tryd.func52, by kernel_rfl, _, rfl⟩
theorem fn53 : FnOk Tryd.prog 53 Tryd.f53 := ⟨Tryd.func53, by kernel_rfl, _, rfl⟩
theorem fn54 : FnOk Tryd.prog 54 Tryd.f54 := ⟨Tryd.func54, by kernel_rfl, _, rfl⟩
theorem fn55 : FnOk Tryd.prog 55 Tryd.f55 := ⟨Tryd.func55, by kernel_rfl, _, rfl⟩
theorem fn56 : FnOk Tryd.prog 56 Tryd.f56 := ⟨Tryd.func56, by kernel_rfl, _, rfl⟩
theorem fn57 : FnOk Tryd.prog 57 Tryd.f57 := ⟨Tryd.func57, by kernel_rfl, _, rfl⟩
theorem fn58 : FnOk Tryd.prog 58 Tryd.f58 := ⟨Tryd.func58, by kernel_rfl, _, rfl⟩
theorem fn59 : FnOk Tryd.prog 59 Tryd.f59 := ⟨Tryd.func59, by kernel_rfl, _, rfl⟩
theorem fn61 : FnOk Tryd.prog 61 Tryd.f61 := ⟨Tryd.func61, by kernel_rfl, _, rfl⟩
theorem fn62 : FnOk Tryd.prog 62 Tryd.f62 := ⟨Tryd.func62, by kernel_rfl, _, rfl⟩
theorem fn64 : FnOk Tryd.prog 64 Tryd.f64 := ⟨Tryd.func64, by kernel_rfl, _, rfl⟩
theorem fn65 : FnOk Tryd.prog 65 Tryd.f65 := ⟨Tryd.func65, by kernel_rfl, _, rfl⟩
theorem fn66 : FnOk Tryd.prog 66 Tryd.f66 := ⟨Tryd.func66, by kernel_rfl, _, rfl⟩
theorem fn67 : FnOk Tryd.prog 67 Tryd.f67 := ⟨Tryd.func67, by kernel_rfl, _, rfl⟩
theorem fn68 : FnOk Tryd.prog 68 Tryd.f68 := ⟨Tryd.func68, by kernel_rfl, _, rfl⟩
theorem fn69 : FnOk Tryd.prog 69 Tryd.f69 := ⟨Tryd.func69, by kernel_rfl, _, rfl⟩
theorem fn70 : FnOk Tryd.prog 70 Tryd.f70 := ⟨Tryd.func70, by kernel_rfl, _, rfl⟩
theorem fn71 : FnOk Tryd.prog 71 Tryd.f71 := ⟨Tryd.func71, by kernel_rfl, _, rfl⟩
theorem fn72 : FnOk Tryd.prog 72 Tryd.f72 := ⟨Tryd.func72, by kernel_rfl, _, rfl⟩
theorem fn73 : FnOk Tryd.prog 73 Tryd.f73 := ⟨Tryd.func73, by kernel_rfl, _, rfl⟩
theorem fn74 : FnOk Tryd.prog 74 Tryd.f74 := ⟨Tryd.func74, by kernel_rfl, _, rfl⟩
theorem fn75 : FnOk Tryd.prog 75 Tryd.f75 := ⟨Tryd.func75, by kernel_rfl, _, rfl⟩
theorem fn76 : FnOk Tryd.prog 76 Tryd.f76 := ⟨Tryd.func76, by kernel_rfl, _, rfl⟩
theorem fn77 : FnOk Tryd.prog 77 Tryd.f77 := ⟨Tryd.func77, by kernel_rfl, _, rfl⟩
theorem fn78 : FnOk Tryd.prog 78 Tryd.f78 := ⟨Tryd.func78, by kernel_rfl, _, rfl⟩
theorem fn79 : FnOk Tryd.prog 79 Tryd.f79 := ⟨Tryd.func79, by kernel_rfl, _, rfl⟩
theorem fn80 : FnOk Tryd.prog 80 Tryd.f80 := ⟨Tryd.func80, by kernel_rfl, _, rfl⟩
theorem fn81 : FnOk Tryd.prog 81 Tryd.f81 := ⟨Tryd.func81, by kernel_rfl, _, rfl⟩
theorem fn82 : FnOk Tryd.prog 82 Tryd.f82 := ⟨Tryd.func82, by kernel_rfl, _, rfl⟩
theorem fn83 : FnOk Tryd.prog 83 Tryd.f83 := ⟨Tryd.func83, by kernel_rfl, _, rfl⟩
theorem fn84 : FnOk Tryd.prog 84 Tryd.f84 := ⟨Tryd.func84, by kernel_rfl, _, rfl⟩
theorem fn85 : FnOk Tryd.prog 85 Tryd.f85 := ⟨Tryd.func85, by kernel_rfl, _, rfl⟩
theorem fn86 : FnOk Tryd.prog 86 Tryd.f86 := ⟨Tryd.func86, by kernel_rfl, _, rfl⟩
theorem fn87 : FnOk Tryd.prog 87 Tryd.f87 := ⟨Tryd.func87, by kernel_rfl, _, rfl⟩
theorem fn88 : FnOk Tryd.prog 88 Tryd.f88 := ⟨Tryd.func88, by kernel_rfl, _, rfl⟩
theorem fn89 : FnOk Tryd.prog 89 Tryd.f89 := ⟨Tryd.func89, by kernel_rfl, _, rfl⟩
theorem fn90 : FnOk Tryd.prog 90 Tryd.f90 := ⟨Tryd.func90, by kernel_rfl, _, rfl⟩
theorem fn92 : FnOk Tryd.prog 92 Tryd.f92 := ⟨Tryd.func92, by kernel_rfl, _, rfl⟩
theorem fn93 : FnOk Tryd.prog 93 Tryd.f93 := ⟨Tryd.func93, by kernel_rfl, _, rfl⟩
theorem fn94 : FnOk Tryd.prog 94 Tryd.f94 := ⟨Tryd.func94, by kernel_rfl, _, rfl⟩
theorem fn95 : FnOk Tryd.prog 95 Tryd.f95 := ⟨Tryd.func95, by kernel_rfl, _, rfl⟩
theorem fn96 : FnOk Tryd.prog 96 Tryd.f96 := ⟨Tryd.func96, by kernel_rfl, _, rfl⟩
theorem fn97 : FnOk Tryd.prog 97 Tryd.f97 := ⟨Tryd.func97, by kernel_rfl, _, rfl⟩
theorem fn98 : FnOk Tryd.prog 98 Tryd.f98 := ⟨Tryd.func98, by kernel_rfl, _, rfl⟩
theorem fn99 : FnOk Tryd.prog 99 Tryd.f99 := ⟨Tryd.func99, by kernel_rfl, _, rfl⟩
theorem fn100 : FnOk Tryd.prog 100 Tryd.f100 := ⟨Tryd.func100, by kernel_rfl, _, rfl⟩
theorem fn101 : FnOk Tryd.prog 101 Tryd.f101 := ⟨Tryd.func101, by kernel_rfl, _, rfl⟩
theorem fn102 : FnOk Tryd.prog 102 Tryd.f102 := ⟨Tryd.func102, by kernel_rfl, _, rfl⟩
theorem fn103 : FnOk Tryd.prog 103 Tryd.f103 := ⟨Tryd.func103, by kernel_rfl, _, rfl⟩
theorem fn124 : FnOk Tryd.prog 124 Tryd.f124 := ⟨Tryd.func124, by kernel_rfl, _, rfl⟩
noncomputable def tab : BT Func := .node 52 Tryd.f52 (.node 27 Tryd.f27 (.node 14 Tryd.f14 (.node 8 Tryd.f8 (.node 5 Tryd.f5 (.node 3 Tryd.f3 (.node 2 Tryd.f2 (.leaf) (.leaf)) (.node 4 Tryd.f4 (.leaf) (.leaf))) (.node 7 Tryd.f7 (.node 6 Tryd.f6 (.leaf) (.leaf)) (.leaf))) (.node 11 Tryd.f11 (.node 10 Tryd.f10 (.node 9 Tryd.f9 (.leaf) (.leaf)) (.leaf)) (.node 13 Tryd.f13 (.node 12 Tryd.f12 (.leaf) (.leaf)) (.leaf)))) (.node 21 Tryd.f21 (.node 18 Tryd.f18 (.node 16 Tryd.f16 (.node 15 Tryd.f15 (.leaf) (.leaf)) (.node 17 Tryd.f17 (.leaf) (.leaf))) (.node 20 Tryd.f20 (.node 19 Tryd.f19 (.leaf) (.leaf)) (.leaf))) (.node 24 Tryd.f24 (.node 23 Tryd.f23 (.node 22 Tryd.f22 (.leaf) (.leaf)) (.leaf)) (.node 26 Tryd.f26 (.node 25 Tryd.f25 (.leaf) (.leaf)) (.leaf))))) (.node 40 Tryd.f40 (.node 34 Tryd.f34 (.node 31 Tryd.f31 (.node 29 Tryd.f29 (.node 28 Tryd.f28 (.leaf) (.leaf)) (.node 30 Tryd.f30 (.leaf) (.leaf))) (.node 33 Tryd.f33 (.node 32 Tryd.f32 (.leaf) (.leaf)) (.leaf))) (.node 37 Tryd.f37 (.node 36 Tryd.f36 (.node 35 Tryd.f35 (.leaf) (.leaf)) (.leaf)) (.node 39 Tryd.f39 (.node 38 Tryd.f38 (.leaf) (.leaf)) (.leaf)))) (.node 46 Tryd.f46 (.node 43 Tryd.f43 (.node 42 Tryd.f42 (.node 41 Tryd.f41 (.leaf) (.leaf)) (.leaf)) (.node 45 Tryd.f45 (.node 44 Tryd.f44 (.leaf) (.leaf)) (.leaf))) (.node 49 Tryd.f49 (.node 48 Tryd.f48 (.node 47 Tryd.f47 (.leaf) (.leaf)) (.leaf)) (.node 51 Tryd.f51 (.node 50 Tryd.f50 (.leaf) (.leaf)) (.leaf)))))) (.node 79 Tryd.f79 (.node 67 Tryd.f67 (.node 59 Tryd.f59 (.node 56 Tryd.f56 (.node 54 Tryd.f54 (.node 53 Tryd.f53 (.leaf) (.leaf)) (.node 55 Tryd.f55 (.leaf) (.leaf))) (.node 58 Tryd.f58 (.node 57 Tryd.f57 (.leaf) (.leaf)) (.leaf))) (.node 64 Tryd.f64 (.node 62 Tryd.f62 (.node 61 Tryd.f61 (.leaf) (.leaf)) (.leaf)) (.node 66 Tryd.f66 (.node 65 Tryd.f65 (.leaf) (.leaf)) (.leaf)))) (.node 73 Tryd.f73 (.node 70 Tryd.f70 (.node 69 Tryd.f69 (.node 68 Tryd.f68 (.leaf) (.leaf)) (.leaf)) (.node 72 Tryd.f72 (.node 71 Tryd.f71 (.leaf) (.leaf)) (.leaf))) (.node 76 Tryd.f76 (.node 75 Tryd.f75 (.node 74 Tryd.f74 (.leaf) (.leaf)) (.leaf)) (.node 78 Tryd.f78 (.node 77 Tryd.f77 (.leaf) (.leaf)) (.leaf))))) (.node 93 Tryd.f93 (.node 86 Tryd.f86 (.node 83 Tryd.f83 (.node 81 Tryd.f81 (.node 80 Tryd.f80 (.leaf) (.leaf)) (.node 82 Tryd.f82 (.leaf) (.leaf))) (.node 85 Tryd.f85 (.node 84 Tryd.f84 (.leaf) (.leaf)) (.leaf))) (.node 89 Tryd.f89 (.node 88 Tryd.f88 (.node 87 Tryd.f87 (.leaf) (.leaf)) (.leaf)) (.node 92 Tryd.f92 (.node 90 Tryd.f90 (.leaf) (.leaf)) (.leaf)))) (.node 99 Tryd.f99 (.node 96 Tryd.f96 (.node 95 Tryd.f95 (.node 94 Tryd.f94 (.leaf) (.leaf)) (.leaf)) (.node 98 Tryd.f98 (.node 97 Tryd.f97 (.leaf) (.leaf)) (.leaf))) (.node 102 Tryd.f102 (.node 101 Tryd.f101 (.node 100 Tryd.f100 (.leaf) (.leaf)) (.leaf)) (.node 124 Tryd.f124 (.node 103 Tryd.f103 (.leaf) (.leaf)) (.leaf))))))
set_option maxRecDepth 100000 in
theorem tab_ok : TbOk Tryd.prog tab.get := tbOk_of (t := tab) ⟨fn52, ⟨fn27, ⟨fn14, ⟨fn8, ⟨fn5, ⟨fn3, ⟨fn2, trivial, trivial⟩, ⟨fn4, trivial, trivial⟩⟩, ⟨fn7, ⟨fn6, trivial, trivial⟩, trivial⟩⟩, ⟨fn11, ⟨fn10, ⟨fn9, trivial, trivial⟩, trivial⟩, ⟨fn13, ⟨fn12, trivial, trivial⟩, trivial⟩⟩⟩, ⟨fn21, ⟨fn18, ⟨fn16, ⟨fn15, trivial, trivial⟩, ⟨fn17, trivial, trivial⟩⟩, ⟨fn20, ⟨fn19, trivial, trivial⟩, trivial⟩⟩, ⟨fn24, ⟨fn23, ⟨fn22, trivial, trivial⟩, trivial⟩, ⟨fn26, ⟨fn25, trivial, trivial⟩, trivial⟩⟩⟩⟩, ⟨fn40, ⟨fn34, ⟨fn31, ⟨fn29, ⟨fn28, trivial, trivial⟩, ⟨fn30, trivial, trivial⟩⟩, ⟨fn33, ⟨fn32, trivial, trivial⟩, trivial⟩⟩, ⟨fn37, ⟨fn36, ⟨fn35, trivial, trivial⟩, trivial⟩, ⟨fn39, ⟨fn38, trivial, trivial⟩, trivial⟩⟩⟩, ⟨fn46, ⟨fn43, ⟨fn42, ⟨fn41, trivial, trivial⟩, trivial⟩, ⟨fn45, ⟨fn44, trivial, trivial⟩, trivial⟩⟩, ⟨fn49, ⟨fn48, ⟨fn47, trivial, trivial⟩, trivial⟩, ⟨fn51, ⟨fn50, trivial, trivial⟩, trivial⟩⟩⟩⟩⟩, ⟨fn79, ⟨fn67, ⟨fn59, ⟨fn56, ⟨fn54, ⟨fn53, trivial, trivial⟩, ⟨fn55, trivial, trivial⟩⟩, ⟨fn58, ⟨fn57, trivial, trivial⟩, trivial⟩⟩, ⟨fn64, ⟨fn62, ⟨fn61, trivial, trivial⟩, trivial⟩, ⟨fn66, ⟨fn65, trivial, trivial⟩, trivial⟩⟩⟩, ⟨fn73, ⟨fn70, ⟨fn69, ⟨fn68, trivial, trivial⟩, trivial⟩, ⟨fn72, ⟨fn71, trivial, trivial⟩, trivial⟩⟩, ⟨fn76, ⟨fn75, ⟨fn74, trivial, trivial⟩, trivial⟩, ⟨fn78, ⟨fn77, trivial, trivial⟩, trivial⟩⟩⟩⟩, ⟨fn93, ⟨fn86, ⟨fn83, ⟨fn81, ⟨fn80, trivial, trivial⟩, ⟨fn82, trivial, trivial⟩⟩, ⟨fn85, ⟨fn84, trivial, trivial⟩, trivial⟩⟩, ⟨fn89, ⟨fn88, ⟨fn87, trivial, trivial⟩, trivial⟩, ⟨fn92, ⟨fn90, trivial, trivial⟩, trivial⟩⟩⟩, ⟨fn99, ⟨fn96, ⟨fn95, ⟨fn94, trivial, trivial⟩, trivial⟩, ⟨fn98, ⟨fn97, trivial, trivial⟩, trivial⟩⟩, ⟨fn102, ⟨fn101, ⟨fn100, trivial, trivial⟩, trivial⟩, ⟨fn124, ⟨fn103, trivial, trivial⟩, trivial⟩⟩⟩⟩⟩⟩
theorem mixed : Tryd.prog.follows .mixedOrders = true := by kernel_rfl
end Go.Proofs.YtoiffpoffnlebaaDoor.Sx
end
section
namespace Go.Proofs
open Go.Shelf
def Tryd.lays137_ren : Go.Shelf.Ren := ⟨fun | 137 => 31 | 217 => 41 | 266 => 60 | n => n, fun | 9 => 9 | 5 => 5 | 3 => 3 | n => n, fun | n => n⟩
theorem Tryd.lays137 : Go.Proofs.Lays.n137 Tryd.prog Tryd.lays137_ren := {
  mixed := by kernel_rfl
  f137 := Tryd.func31.trans (congrArg some (by kernel_rfl))
  f217 := Tryd.func41.trans (congrArg some (by kernel_rfl))
  f266 := Tryd.func60.trans (congrArg some (by kernel_rfl))
  t3 := Tryd.underlying3
  a3 := Tryd.isAgg3
  z3 := Tryd.sizeOf3
  v3 := Tryd.zeroValue3
  t5 := Tryd.underlying5
  a5 := Tryd.isAgg5
  z5 := Tryd.sizeOf5
  v5 := Tryd.zeroValue5
  t9 := Tryd.underlying9
  a9 := Tryd.isAgg9
  z9 := Tryd.sizeOf9
  v9 := Tryd.zeroValue9 }
open Go.RowKit in
theorem Tryd.strings_IndexByte (s : ByteArray) (c : Int) (w : World) :
    Calls Tryd.prog 31 #[.string s, .int .u8 c] w fun e w' => e = .returned (.int .i64 (Lib.indexByte s.data.toList c.toNat.toUInt8)) ∧ w' = w := Any.strings_IndexByte Tryd.lays137 s c w
def Tryd.lays103_ren : Go.Shelf.Ren := ⟨fun | 103 => 45 | 210 => 65 | 206 => 94 | n => n, fun | 9 => 9 | 4 => 4 | 24 => 79 | 3 => 3 | n => n, fun | n => n⟩
theorem Tryd.lays103 : Go.Proofs.Lays.n103 Tryd.prog Tryd.lays103_ren := {
  mixed := by kernel_rfl
  f103 := Tryd.func45.trans (congrArg some (by kernel_rfl))
  f206 := Tryd.func94.trans (congrArg some (by kernel_rfl))
  f210 := Tryd.func65.trans (congrArg some (by kernel_rfl))
  t3 := Tryd.underlying3
  a3 := Tryd.isAgg3
  z3 := Tryd.sizeOf3
  v3 := Tryd.zeroValue3
  t4 := Tryd.underlying4
  a4 := Tryd.isAgg4
  z4 := Tryd.sizeOf4
  v4 := Tryd.zeroValue4
  t9 := Tryd.underlying9
  a9 := Tryd.isAgg9
  z9 := Tryd.sizeOf9
  v9 := Tryd.zeroValue9
  t24 := Tryd.underlying79
  a24 := Tryd.isAgg79
  z24 := Tryd.sizeOf79
  v24 := Tryd.zeroValue79 }
open Go.RowKit in
theorem Tryd.strings_CutPrefix (s p : ByteArray) (w : World) :
    Calls Tryd.prog 45 #[.string s, .string p] w fun e w' => e = .returned (.tuple #[.string ⟨(Lib.trimPrefix s.data.toList p.data.toList).toArray⟩, .bool (Lib.hasPrefix s.data.toList p.data.toList)]) ∧ w' = w := Any.strings_CutPrefix Tryd.lays103 s p w
def Tryd.lays143_ren : Go.Shelf.Ren := ⟨fun | 143 => 44 | 219 => 64 | 217 => 41 | 225 => 91 | 224 => 92 | 267 => 93 | 266 => 60 | 314 => 101 | n => n, fun | 9 => 9 | 3 => 3 | 4 => 4 | 5 => 5 | 46 => 68 | 146 => 113 | 51 => 55 | n => n, fun | 1 => 0 | n => n⟩
theorem Tryd.lays143 : Go.Proofs.Lays.n143 Tryd.prog Tryd.lays143_ren := {
  mixed := by kernel_rfl
  f143 := Tryd.func44.trans (congrArg some (by kernel_rfl))
  f217 := Tryd.func41.trans (congrArg some (by kernel_rfl))
  f219 := Tryd.func64.trans (congrArg some (by kernel_rfl))
  f224 := Tryd.func92.trans (congrArg some (by kernel_rfl))
  f225 := Tryd.func91.trans (congrArg some (by kernel_rfl))
  f266 := Tryd.func60.trans (congrArg some (by kernel_rfl))
  f267 := Tryd.func93.trans (congrArg some (by kernel_rfl))
  f314 := Tryd.func101.trans (congrArg some (by kernel_rfl))
  t3 := Tryd.underlying3
  a3 := Tryd.isAgg3
  z3 := Tryd.sizeOf3
  v3 := Tryd.zeroValue3
  t4 := Tryd.underlying4
  a4 := Tryd.isAgg4
  z4 := Tryd.sizeOf4
  v4 := Tryd.zeroValue4
  t5 := Tryd.underlying5
  a5 := Tryd.isAgg5
  z5 := Tryd.sizeOf5
  v5 := Tryd.zeroValue5
  t9 := Tryd.underlying9
  a9 := Tryd.isAgg9
  z9 := Tryd.sizeOf9
  v9 := Tryd.zeroValue9
  t46 := Tryd.underlying68
  a46 := Tryd.isAgg68
  z46 := Tryd.sizeOf68
  v46 := Tryd.zeroValue68
  t51 := Tryd.underlying55
  a51 := Tryd.isAgg55
  z51 := Tryd.sizeOf55
  v51 := Tryd.zeroValue55
  t146 := Tryd.underlying113
  a146 := Tryd.isAgg113
  z146 := Tryd.sizeOf113
  v146 := Tryd.zeroValue113
  g1 := by kernel_rfl }
open Go.RowKit Go.Lib in
theorem Tryd.strings_Index_one (s : ByteArray) (c : UInt8) (w : World) :
    Calls Tryd.prog 44 #[.string s, .string ⟨#[c]⟩] w fun e w' => e = .returned (.int .i64 (Lib.indexByte s.data.toList c)) ∧ w' = w := Any.strings_Index_one Tryd.lays143 s c w
def Tryd.lays138_ren : Go.Shelf.Ren := ⟨fun | 138 => 43 | 195 => 61 | 218 => 63 | 143 => 44 | 219 => 64 | 217 => 41 | 225 => 91 | 224 => 92 | 267 => 93 | 266 => 60 | 314 => 101 | n => n, fun | 9 => 9 | 3 => 3 | 4 => 4 | 5 => 5 | 0 => 0 | 46 => 68 | 146 => 113 | 51 => 55 | n => n, fun | 1 => 0 | n => n⟩
theorem Tryd.lays138 : Go.Proofs.Lays.n138 Tryd.prog Tryd.lays138_ren := {
  mixed := by kernel_rfl
  f138 := Tryd.func43.trans (congrArg some (by kernel_rfl))
  f143 := Tryd.func44.trans (congrArg some (by kernel_rfl))
  f195 := Tryd.func61.trans (congrArg some (by kernel_rfl))
  f217 := Tryd.func41.trans (congrArg some (by kernel_rfl))
  f218 := Tryd.func63.trans (congrArg some (by kernel_rfl))
  f219 := Tryd.func64.trans (congrArg some (by kernel_rfl))
  f224 := Tryd.func92.trans (congrArg some (by kernel_rfl))
  f225 := Tryd.func91.trans (congrArg some (by kernel_rfl))
  f266 := Tryd.func60.trans (congrArg some (by kernel_rfl))
  f267 := Tryd.func93.trans (congrArg some (by kernel_rfl))
  f314 := Tryd.func101.trans (congrArg some (by kernel_rfl))
  t0 := Tryd.underlying0
  a0 := Tryd.isAgg0
  z0 := Tryd.sizeOf0
  v0 := Tryd.zeroValue0
  t3 := Tryd.underlying3
  a3 := Tryd.isAgg3
  z3 := Tryd.sizeOf3
  v3 := Tryd.zeroValue3
  t4 := Tryd.underlying4
  a4 := Tryd.isAgg4
  z4 := Tryd.sizeOf4
  v4 := Tryd.zeroValue4
  t5 := Tryd.underlying5
  a5 := Tryd.isAgg5
  z5 := Tryd.sizeOf5
  v5 := Tryd.zeroValue5
  t9 := Tryd.underlying9
  a9 := Tryd.isAgg9
  z9 := Tryd.sizeOf9
  v9 := Tryd.zeroValue9
  t46 := Tryd.underlying68
  a46 := Tryd.isAgg68
  z46 := Tryd.sizeOf68
  v46 := Tryd.zeroValue68
  t51 := Tryd.underlying55
  a51 := Tryd.isAgg55
  z51 := Tryd.sizeOf55
  v51 := Tryd.zeroValue55
  t146 := Tryd.underlying113
  a146 := Tryd.isAgg113
  z146 := Tryd.sizeOf113
  v146 := Tryd.zeroValue113
  g1 := by kernel_rfl }
open Go.RowKit Go.Lib in
theorem Tryd.strings_Count_one (s : ByteArray) (c : UInt8) (w : World) :
    Calls Tryd.prog 43 #[.string s, .string ⟨#[c]⟩] w fun e w' => e = .returned (.int .i64 (Lib.countByte s.data.toList c)) ∧ w' = w := Any.strings_Count_one Tryd.lays138 s c w
end Go.Proofs
end
section
set_option linter.unusedVariables false
set_option linter.unusedSimpArgs false
namespace Go.Proofs.YtoiffpoffnlebaaDoor.Sx
open Go Go.RowKit
/-- a function of two strings, the second of one byte, that answers a number and leaves all as it was -/
def byteOrc (f0 : FuncId) (g : ByteArray → UInt8 → Int) : Orc := fun f args hp =>
  bif Nat.beq f f0 then
    match args with
    | [.pv (.one (.str s)), .pv (.one (.str t))] => match t with
      | ⟨⟨[c]⟩⟩ => some (.ret (.sc (.int .i64 (.lit (g s c))), hp))
      | _ => none
    | _ => none
  else none
theorem byteOrc_ok {P : Program} {f0 : FuncId} {g : ByteArray → UInt8 → Int} (hg : ∀ (s : ByteArray) (c : UInt8) (w : World), Calls P f0 #[.string s, .string ⟨#[c]⟩] w fun e w' => e = .returned (.int .i64 (g s c)) ∧ w' = w) (X : Ext) (ft : Ft) : OrcOk P X ft (byteOrc f0 g) := by
  intro f args hp t ht C w vs hC h hv Φ hx
  unfold byteOrc at ht
  cases hb : Nat.beq f f0 with
  | false => rw [hb, cond_false] at ht; cases ht
  | true =>
    rw [hb, cond_true] at ht
    have hf : f = f0 := Nat.eq_of_beq_eq_true hb
    subst hf
    split at ht
    · rename_i s t'
      split at ht
      · rename_i c
        cases ht
        cases hv with
        | @cons _ v1 _ vs1 h1 h2 =>
        cases h2 with
        | @cons _ v2 _ vs2 h2 h3 =>
        cases h3
        have h1 : v1 = .string s := h1
        have h2 : v2 = .string ⟨#[c]⟩ := h2
        subst h1; subst h2
        refine (hg s c w).mono fun e w' hh => ?_
        obtain ⟨rfl, rfl⟩ := hh
        exact ⟨C, _, .sc (.int .i64 (.lit (g s c))), hp, rfl, ⟨trivial, rfl⟩, h, .refl C _, hx⟩
      · cases ht
    · cases ht
def strOrc : Orc := orcOr (byteOrc 43 fun s c => Lib.countByte s.data.toList c) (byteOrc 44 fun s c => Lib.indexByte s.data.toList c)
theorem strOrc_ok (X : Ext) (ft : Ft) : OrcOk Tryd.prog X ft strOrc := orcOr_ok (byteOrc_ok Tryd.strings_Count_one _ _) (byteOrc_ok Tryd.strings_Index_one _ _)
end Go.Proofs.YtoiffpoffnlebaaDoor.Sx
end
section
set_option linter.unusedVariables false
set_option linter.unusedSimpArgs false
namespace Go.Proofs.YtoiffpoffnlebaaDoor.Sx
open Go Go.RowKit
set_option maxRecDepth 100000
set_option maxHeartbeats 4000000 in
theorem awake_run : (xfn Tryd.prog tab.get strOrc 5000 100 8 [] hp1).every (fun a => a.1.isB true) = true := by kernel_rfl
end Go.Proofs.YtoiffpoffnlebaaDoor.Sx
namespace Go.Proofs.YtoiffpoffnlebaaDoor
open Go Go.RowKit Sx
set_option maxRecDepth 100000 in
theorem asm_awake (w : World) : Calls Tryd.prog 8 #[] w fun e w' => e = .returned (.bool true) ∧ Below w.heap.size w w' := by
  have := xfn_ok (X := noExt) (ft := fun _ g _ => ([], g)) tab_ok (strOrc_ok _ _) mixed 5000 100 8 [] hp1 (ctx1 (envOf [])) w [] ⟨rfl, rfl, fun _ _ h => nomatch h⟩ (hrel1 (envOf []) w) .nil (fun _ a => a.1.isB true = true) (T.every_holds awake_run)
  refine this.mono fun e w' hh => ?_
  obtain ⟨C', v', sv, hp', rfl, hrel, hH, hK, hb⟩ := hh
  have := SV.isB_ok hb
  simp only at this
  subst this
  exact ⟨by rw [hrel.2]; rfl, hK.os, hK.tape, hK.output, hK.size, fun k hk => hK.keep k hk (fun e => e) (fun e => e)⟩
end Go.Proofs.YtoiffpoffnlebaaDoor
end
