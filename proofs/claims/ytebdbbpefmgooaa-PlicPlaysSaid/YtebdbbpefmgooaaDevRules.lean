/- The rules of XRules at the types that hold the devices; the cells of a Dev, one by one. No condition. -/
import Derived.Test.YtebdbbpefmgooaaRules
set_option linter.unusedVariables false
set_option linter.unusedSimpArgs false
namespace Go.Proofs.Ytebdbbpefmgooaa
open Go.RowKit

theorem ld_dev (x : Value) : Instr.loadAt 59 x = loadS 59 x := rfl
theorem lv_dev (w : World) (g : Nat) (C : Array Value) (h : rowIs w g 22 = true) (hC : rowOf w g = C) : (loadVar 59 ⟨g, 0, none⟩).run Try.prog w = .ok (.agg C) w :=
  run_loadV Try.prog 59 _ 22 Try.underlying59 rfl (by kernel_rfl) w g C h hC
theorem st_dev (x v : Value) : Instr.storeAt 59 x v = storeS 59 x v := rfl
theorem rl_dev (w : World) (g : Nat) (h : rowIs w g 22 = true) : (loadS 59 (.pointer (some ⟨g, 0, none⟩))).run Try.prog w = .ok (.agg (rowOf w g)) w :=
  run_loadS Try.prog 59 _ 22 Try.underlying59 rfl (by kernel_rfl) w g h
theorem rs_dev (w : World) (g : Nat) (C : Array Value) (h : rowIs w g 22 = true) (hC : stOk 22 C = true) : (storeS 59 (.pointer (some ⟨g, 0, none⟩)) (.agg C)).run Try.prog w = .ok () (w.setRow g C) :=
  run_storeS' Try.prog 59 22 (by kernel_rfl) w g C h hC
theorem ld_ref (x : Value) : Instr.loadAt 61 x = loadS 61 x := rfl
theorem lv_ref (w : World) (g : Nat) (C : Array Value) (h : rowIs w g 22 = true) (hC : rowOf w g = C) : (loadVar 61 ⟨g, 0, none⟩).run Try.prog w = .ok (.agg C) w :=
  run_loadV Try.prog 61 _ 22 Try.underlying61 rfl (by kernel_rfl) w g C h hC
theorem st_ref (x v : Value) : Instr.storeAt 61 x v = storeS 61 x v := rfl
theorem rl_ref (w : World) (g : Nat) (h : rowIs w g 22 = true) : (loadS 61 (.pointer (some ⟨g, 0, none⟩))).run Try.prog w = .ok (.agg (rowOf w g)) w :=
  run_loadS Try.prog 61 _ 22 Try.underlying61 rfl (by kernel_rfl) w g h
theorem rs_ref (w : World) (g : Nat) (C : Array Value) (h : rowIs w g 22 = true) (hC : stOk 22 C = true) : (storeS 61 (.pointer (some ⟨g, 0, none⟩)) (.agg C)).run Try.prog w = .ok () (w.setRow g C) :=
  run_storeS' Try.prog 61 22 (by kernel_rfl) w g C h hC
theorem ld_plc (x : Value) : Instr.loadAt 102 x = loadS 102 x := rfl
theorem lv_plc (w : World) (g : Nat) (C : Array Value) (h : rowIs w g 22 = true) (hC : rowOf w g = C) : (loadVar 102 ⟨g, 0, none⟩).run Try.prog w = .ok (.agg C) w :=
  run_loadV Try.prog 102 _ 22 Try.underlying102 rfl (by kernel_rfl) w g C h hC
theorem st_plc (x v : Value) : Instr.storeAt 102 x v = storeS 102 x v := rfl
theorem rl_plc (w : World) (g : Nat) (h : rowIs w g 22 = true) : (loadS 102 (.pointer (some ⟨g, 0, none⟩))).run Try.prog w = .ok (.agg (rowOf w g)) w :=
  run_loadS Try.prog 102 _ 22 Try.underlying102 rfl (by kernel_rfl) w g h
theorem rs_plc (w : World) (g : Nat) (C : Array Value) (h : rowIs w g 22 = true) (hC : stOk 22 C = true) : (storeS 102 (.pointer (some ⟨g, 0, none⟩)) (.agg C)).run Try.prog w = .ok () (w.setRow g C) :=
  run_storeS' Try.prog 102 22 (by kernel_rfl) w g C h hC
theorem Dev.size_cells (d : Dev) : d.cells.size = 22 := rfl
theorem Dev.st_ok (d : Dev) : stOk 22 d.cells = true := by simp [stOk, Dev.cells, Value.oneCell']
theorem Dev.c0 (d : Dev) : d.cells[0]? = some (.bool d.msip) := rfl
theorem Dev.c1 (d : Dev) : d.cells[1]? = some (.int .u64 d.mtime) := rfl
theorem Dev.c2 (d : Dev) : d.cells[2]? = some (.int .u64 d.cmp) := rfl
theorem Dev.c3 (d : Dev) : d.cells[3]? = some (.int .u32 (d.pr 0)) := rfl
theorem Dev.c4 (d : Dev) : d.cells[4]? = some (.int .u32 (d.pr 1)) := rfl
theorem Dev.c5 (d : Dev) : d.cells[5]? = some (.int .u32 (d.pr 2)) := rfl
theorem Dev.c6 (d : Dev) : d.cells[6]? = some (.int .u32 (d.pr 3)) := rfl
theorem Dev.c7 (d : Dev) : d.cells[7]? = some (.int .u32 (d.pr 4)) := rfl
theorem Dev.c8 (d : Dev) : d.cells[8]? = some (.int .u32 (d.pr 5)) := rfl
theorem Dev.c9 (d : Dev) : d.cells[9]? = some (.int .u32 (d.pr 6)) := rfl
theorem Dev.c10 (d : Dev) : d.cells[10]? = some (.int .u32 (d.pr 7)) := rfl
theorem Dev.c11 (d : Dev) : d.cells[11]? = some (.int .u32 d.pend) := rfl
theorem Dev.c12 (d : Dev) : d.cells[12]? = some (.int .u32 d.cla) := rfl
theorem Dev.c13 (d : Dev) : d.cells[13]? = some (.int .u32 (d.en 0)) := rfl
theorem Dev.c14 (d : Dev) : d.cells[14]? = some (.int .u32 (d.en 1)) := rfl
theorem Dev.c15 (d : Dev) : d.cells[15]? = some (.int .u32 (d.th 0)) := rfl
theorem Dev.c16 (d : Dev) : d.cells[16]? = some (.int .u32 (d.th 1)) := rfl
theorem Dev.c17 (d : Dev) : d.cells[17]? = some (.int .u32 d.lines) := rfl
theorem Dev.c18 (d : Dev) : d.cells[18]? = some (.slice d.rxa d.rxl d.rxc) := rfl
theorem Dev.c19 (d : Dev) : d.cells[19]? = some (.slice d.txa d.txl d.txc) := rfl
theorem Dev.c20 (d : Dev) : d.cells[20]? = some (.int .u32 d.uen) := rfl
theorem Dev.c21 (d : Dev) : d.cells[21]? = some (.bool d.lost) := rfl
theorem lvs_ref (w : World) (g : Nat) (C : Array Value) (h : rowIs w g 22 = true) (hC : C.size = 22) : (loadVar 61 ⟨g, 0, none⟩).run Try.prog (w.setRow g C) = .ok (.agg C) (w.setRow g C) :=
  lv_ref _ _ _ (by rw [is_setRow_same _ _ 22 _ _ h, hC]; rfl) (row_setRow_same _ _ 22 _ h)
theorem lvs_dev (w : World) (g : Nat) (C : Array Value) (h : rowIs w g 22 = true) (hC : C.size = 22) : (loadVar 59 ⟨g, 0, none⟩).run Try.prog (w.setRow g C) = .ok (.agg C) (w.setRow g C) :=
  lv_dev _ _ _ (by rw [is_setRow_same _ _ 22 _ _ h, hC]; rfl) (row_setRow_same _ _ 22 _ h)
end Go.Proofs.Ytebdbbpefmgooaa
